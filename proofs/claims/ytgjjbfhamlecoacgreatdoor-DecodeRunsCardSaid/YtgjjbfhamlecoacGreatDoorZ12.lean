/- Contracts of functions of the given program, in the logic L: texts put together; no conditions. -/
import Derived.Test.YtgjjbfhamlecoacGreatDoorZ11
import Derived.Test.YtgjjbfhamlecoacGreatDoorZ2
import Derived.Test.YtgjjbfhamlecoacGreatDoorZ3
import Derived.Test.YtgjjbfhamlecoacGreatDoorProg
import Derived.KernelRfl
import Derived.Test.YtgjjbfhamlecoacGreatDoorZ4
namespace Go.Proofs.YtgjjbfhamlecoacGreatDoor
open Go.L
def VS (t : Str) (v : Nat) : Prop := ∀ r, rdV (t ++ r) = .ok v t.length
theorem VS.pos {t : Str} {v : Nat} (h : VS t v) : 0 < t.length := (rdV_ok (h [])).2
def byts (l : List (Str × Nat)) : Str := l.flatMap (·.1)
theorem byts_app (l m : List (Str × Nat)) : byts (l ++ m) = byts l ++ byts m := List.flatMap_append ..
theorem byts_cons (p : Str × Nat) (m : List (Str × Nat)) : byts (p :: m) = p.1 ++ byts m := List.flatMap_cons ..
theorem byts_one (p : Str × Nat) : byts [p] = p.1 := by rw [byts_cons]; exact List.append_nil _
theorem rest_of {b bd tail : Str} {s : Nat} (h : b.drop s = bd ++ tail) (i : Nat) : rest b (s + i) (s + bd.length) = bd.drop i := by
 rw [← rest_drop, rest, List.drop_take, h, Nat.add_sub_cancel_left, List.take_left]
theorem itlay2 {x : Nat} {e : Env} {y : AOpd} (hy : ev e y = .agg [.int .u64 (narI x), .str [], .nils]) : lay e [.int .u64 0, .str [], .nils, .nilp] [(0, 3, y)] = some (itC x) := by
 rw [lay, hy]; rfl
set_option maxHeartbeats 1000000 in
theorem run_L {h0 h : Hp} {D Tt N FM R : Nat} {cv : AV} {b tail : Str} {o hd : Nat} {fs : Option (Nat × AV)} {xs : List Nat} {deep at_ : Int} {l : List (Str × Nat)} (k : Rec1 h0 Tt N FM R cv b none fs o xs h) (hs : spanR (b.drop o) = .ok hd (hd + (byts l).length))
  (hb : b.drop (o + hd) = byts l ++ tail) (hv : ∀ p ∈ l, VS p.1 p.2) (hxs : xs.length + l.length ≤ 100000000) (hfs : xs = [] → fs = none) :
  CallL Tryz.prog F_decode_decoder_run [.ptr D 0 0, .ptr N 0 0, .agg rowR, .ptr R 0 0, .int .i64 deep, .int .i64 at_] h fun r h' => r = .ret (.tup []) ∧ ∃ fs', Rec1 h0 Tt N FM R cv b none fs' (o + (hd + (byts l).length)) (xs ++ l.map (·.2)) h' ∧ (xs ++ l.map (·.2) = [] → fs' = none) := by
 have hn := spanR_ok hs
 rw [List.length_drop] at hn
 refine K_decode_decoder_run (md := false) ?_
 refine ⟨rfl, rfl, fun B8 hB8 => ?_⟩
 have g1 := (Gr.refl h).set hB8.1 (.row TRow [rowR])
 have k1 := k.gr g1
 have hR8 : R ≠ B8 := ne_of_u (Hp.used k.rd.row) hB8.1
 refine (dpart_L k1.rd (by rw [rest_all]; exact hs)).mono ?_
 rintro r h2 ⟨P, rfl, hP, rfl⟩
 have hRP : R ≠ P := ne_of_u (Hp.used k1.rd.row) hP
 have h8P : B8 ≠ P := ne_of_u (by rw [Hp.set_u]; simp) hP
 have hP0 : h0.u P = false := k1.g.new hP
 have k2 := k1.read (o' := o + (hd + (byts l).length)) (by omega)
 have k3 := k2.setP (P := P) hP0 hRP.symm (.inr (by rw [Hp.set_u, if_neg hRP.symm]; exact hP)) (RdC cv (o + hd : Nat) (o + (hd + (byts l).length) : Nat) 0 0)
 have b8 : (((h.set B8 (.row TRow [rowR])).set R (.row TR [RdC cv (o + (hd + (byts l).length) : Nat) b.length 0 0])).set P (.row TR [RdC cv (o + hd : Nat) (o + (hd + (byts l).length) : Nat) 0 0])) B8 = some (.row TRow [rowR]) := (Hp.set_ne h8P).trans ((Hp.set_ne hR8.symm).trans (Hp.set_same _ _ _))
 refine s_blk (id := 0) (fun e' h' => e'.ds = [] ∧ ∃ fs', Rec1 h0 Tt N FM R cv b none fs' (o + (hd + (byts l).length)) (xs ++ l.map (·.2)) h' ∧ (xs ++ l.map (·.2) = [] → fs' = none)) ?_ ?_
 ·refine s_loop l.length (fun q (s : List (Str × Nat) × List (Str × Nat) × Option (Nat × AV) × Hp) => s.1.length = q ∧ l = s.1 ++ s.2.1 ∧ Rec1 h0 Tt N FM R cv b (some (P, RdC cv (o + hd + (byts s.1).length : Nat) (o + (hd + (byts l).length) : Nat) 0 0)) s.2.2.1 (o + (hd + (byts l).length)) (xs ++ s.1.map (·.2)) s.2.2.2 ∧ s.2.2.2 B8 = some (.row TRow [rowR]) ∧ (xs ++ s.1.map (·.2) = [] → s.2.2.1 = none))
   (fun _ _ => [(1, .ptr N 0 0), (8, .ptr B8 0 0), (12, .ptr P 0 0)]) (fun _ s => s.2.2.2) ([], l, fs, _) ⟨rfl, rfl, by rw [List.map_nil, List.append_nil]; exact k3, b8, fun e => hfs (List.append_eq_nil_iff.1 e).1⟩ rfl rfl ⟨rfl, rfl, rfl, trivial⟩ (fun q s hI => by rw [← hI.1, hI.2.1, List.length_append]; omega) ?_
  rintro q ⟨dn, td, fs1, H⟩ n0 g0 hq ⟨q1, q2, kq, q8, q9⟩
  simp only at q1 q2 kq q8 q9
  have hbl : (byts l).length = (byts dn).length + (byts td).length := by rw [q2, byts_app, List.length_append]
  have kP := kq.part (p := o + hd + (byts dn).length) (e := o + (hd + (byts l).length)) (by omega) (by omega)
  refine (Left_L P cv (o + hd + (byts dn).length) (o + (hd + (byts l).length)) 0 H kP.row (by omega) (by have := k.rd.big; omega)).mono ?_
  rintro r HH ⟨rfl, rfl⟩
  refine s_lt (fun (h3 : (0 : Int) < (o + (hd + (byts l).length) - (o + hd + (byts dn).length) : Nat)) => ?_) (fun (h3 : ((o + (hd + (byts l).length) - (o + hd + (byts dn).length) : Nat) : Int) ≤ 0) => ?_)
  ·cases td with
   | nil => have e0 : (byts []).length = 0 := rfl; omega
   | cons p td =>
    obtain ⟨t, v⟩ := p
    have hvs : VS t v := hv (t, v) (by rw [q2]; simp)
    have htp := hvs.pos
    have hrs : rest b (o + hd + (byts dn).length) (o + (hd + (byts l).length)) = t ++ byts td := by
     rw [← Nat.add_assoc, rest_of hb, q2, byts_app, List.drop_left, byts_cons]
    have hrd : rdV (rest b (o + hd + (byts dn).length) (o + (hd + (byts l).length))) = .ok v t.length := by rw [hrs]; exact hvs _
    have hlen : (byts ((t, v) :: td)).length = t.length + (byts td).length := by rw [byts_cons, List.length_append]
    refine ⟨_, _, _, _, q8, rfl, rfl, ?_⟩
    refine (number5_L kP hrd).mono ?_
    rintro r h4 ⟨rfl, g4⟩
    have hPR := (kq.pr P _ rfl).2.1
    have k4 := (kq.setP (P := P) hP0 hPR (.inl ⟨_, kP.row⟩) (RdC cv (o + hd + (byts dn).length + t.length : Nat) (o + (hd + (byts l).length) : Nat) 0 0)).gr g4
    have n8P : B8 ≠ P := row_ne q8 kP.row (by decide)
    have b84 := g4.blk ((Hp.set_ne n8P).trans q8)
    refine ⟨rfl, rfl, fun B13 hB13 => ?_⟩
    refine ⟨_, _, _, Hp.set_same _ _ _, rfl, rfl, rfl, rfl, by show 3 ≤ 3; decide, ?_⟩
    have g5 := ((Gr.refl h4).set hB13.1 (.row TV [[.int .u64 0, .str [], .nils]])).set hB13.1 (.row TV [[.int .u64 (narI v), .str [], .nils]])
    have k5 := k4.gr g5
    have b85 := g5.blk b84
    have b13 : ((h4.set B13 (.row TV [[.int .u64 0, .str [], .nils]])).set B13 (.row TV [[.int .u64 (narI v), .str [], .nils]])) B13 = some (.row TV [[.int .u64 (narI v), .str [], .nils]]) := Hp.set_same _ _ _
    refine ⟨_, _, _, b85, rfl, by show 9 ≤ 9; decide, ?_⟩
    obtain ⟨_, _, hFM5⟩ := k5.fm
    refine (field_L k5).mono ?_
    rintro r h6 ⟨F, v1, rfl, k6, x6⟩
    have b86 := GrX.blk x6 b85 (map_ne b85 hFM5)
    have b136 := GrX.blk x6 b13 (map_ne b13 hFM5)
    obtain ⟨hFM6, ⟨AM, hF6⟩, hnF, hacc⟩ := k6.f1 F v1 rfl
    refine ⟨_, _, _, _, hF6, rfl, rfl, ?_⟩
    refine ⟨_, _, _, b136, rfl, by show 3 ≤ 3; decide, ?_⟩
    refine ⟨_, itlay2 rfl, ?_⟩
    refine ⟨_, rfl, fun tb htb => ?_⟩
    refine ⟨[itC v], ⟨_, _, Hp.set_same _ _ _, Nat.le_refl _, rfl⟩, ?_⟩
    have hil := items_len (xs ++ dn.map (·.2))
    have hdl : dn.length ≤ l.length := by rw [q2, List.length_append]; omega
    have hcap : (items (xs ++ dn.map (·.2))).length ≤ 100000000 := by rw [hil, List.length_append, List.length_map]; omega
    refine AccE.app (hacc.set htb.1 _) (fun cs hcs => by rw [List.mem_singleton.1 hcs]; rfl) (fun cs hcs => by rw [List.mem_singleton.1 hcs]; rfl) (by rw [List.length_singleton]; unfold capMax; omega) (by rw [List.length_singleton]; unfold capMax; omega) fun v2 H5 ha hf hu hbb => ?_
    have gt := (Gr.refl h6).set htb.1 (.row TI [itC v])
    have k10 := k6.gr gt
    have hap : items (xs ++ dn.map (·.2)) ++ [itC v] = items (xs ++ (dn ++ [(t, v)]).map (·.2)) := by simp
    rw [hap] at ha
    have kk := k10.push (AM := AM) ha hf hbb
    have hFt := gt.blk hF6
    have hvF : blkOf v1 ≠ some F := fun e => by obtain ⟨_, q⟩ := AccE.blk hacc e; exact row_ne q hF6 (by decide) rfl
    have hv8 : blkOf v1 ≠ some B8 := fun e => by obtain ⟨_, q⟩ := AccE.blk hacc e; exact row_ne q b86 (by decide) rfl
    have hF5 := (hf F (Hp.used hFt) hvF).trans hFt
    have b87 := (hf B8 (Hp.used (gt.blk b86)) hv8).trans (gt.blk b86)
    have hone := AccE.one ha
    refine ⟨_, _, _, hF5, rfl, hone.1, by show v2.cells.length = 1; rw [hone.2.1]; rfl, by show flat v2.cells = true; rw [hone.2.1]; exact hone.2.2, by show 11 ≤ 12; decide, ?_⟩
    have hset : (Blk.row TF [(fldC v1 AM).take 10 ++ v2.cells ++ (fldC v1 AM).drop 11]) = .row TF [fldC v2 AM] := by rw [hone.2.1]; rfl
    rw [← hset] at kk
    have hbd : o + hd + (byts dn).length + t.length = o + hd + (byts (dn ++ [(t, v)])).length := by rw [byts_app, byts_one, List.length_append]; show _ = o + hd + (_ + t.length); omega
    rw [hbd] at kk
    have hq2 : q < l.length := by rw [q2, List.length_append, List.length_cons]; omega
    exact ⟨(dn ++ [(t, v)], td, some (F, v2), _), hq2, ⟨by rw [List.length_append, q1]; rfl, by rw [q2]; simp, kk, (Hp.set_ne (row_ne b86 hF6 (by decide))).trans b87, fun e => by simp at e⟩, rfl, rfl, rfl, rfl, rfl, trivial⟩
  ·have htd : td = [] := by
    cases td with
    | nil => rfl
    | cons p td =>
     have := (hv p (by rw [q2]; simp)).pos
     have hlen : (byts (p :: td)).length = p.1.length + (byts td).length := by rw [byts_cons, List.length_append]
     omega
   subst htd
   rw [List.append_nil] at q2
   subst q2
   exact ⟨rfl, fs1, kq.noP, q9⟩
 ·rintro e' h' ⟨hd2, hh⟩
  exact ⟨hd2, rfl, hh⟩
end Go.Proofs.YtgjjbfhamlecoacGreatDoor

namespace Go.Proofs.YtgjjbfhamlecoacGreatDoor
open Go.L
inductive Rn where
 | one (t : Str) (v : Nat)
 | run (hd : Str) (l : List (Str × Nat))
def Rn.bytes : Rn → Str
 | .one t _ => 16 :: t
 | .run hd l => 18 :: (hd ++ byts l)
def Rn.vals : Rn → List Nat
 | .one _ v => [v]
 | .run _ l => l.map (·.2)
def Rn.ok : Rn → Prop
 | .one t v => VS t v
 | .run hd l => VS hd (byts l).length ∧ ∀ p ∈ l, VS p.1 p.2
def recB (l : List Rn) : Str := l.flatMap Rn.bytes
def recV (l : List Rn) : List Nat := l.flatMap Rn.vals
theorem recB_app (l m : List Rn) : recB (l ++ m) = recB l ++ recB m := List.flatMap_append ..
theorem recB_cons (p : Rn) (m : List Rn) : recB (p :: m) = p.bytes ++ recB m := List.flatMap_cons ..
theorem recB_one (p : Rn) : recB [p] = p.bytes := by rw [recB_cons]; exact List.append_nil _
theorem recV_app (l m : List Rn) : recV (l ++ m) = recV l ++ recV m := List.flatMap_append ..
theorem recV_cons (p : Rn) (m : List Rn) : recV (p :: m) = p.vals ++ recV m := List.flatMap_cons ..
theorem recV_one (p : Rn) : recV [p] = p.vals := by rw [recV_cons]; exact List.append_nil _
theorem Rn.pos (p : Rn) : 0 < p.bytes.length := by cases p <;> exact Nat.succ_pos _
theorem tag16 (r : Str) : tagR (16 :: r) = .ok (2, 0) 1 := by
 rw [tagR, show rdV (16 :: r) = .ok 16 1 from rfl]; rfl
theorem tag18 (r : Str) : tagR (18 :: r) = .ok (2, 2) 1 := by
 rw [tagR, show rdV (18 :: r) = .ok 18 1 from rfl]; rfl
theorem span_of {hd : Str} {l : List (Str × Nat)} (h : VS hd (byts l).length) (r : Str) : spanR (hd ++ (byts l ++ r)) = .ok hd.length (hd.length + (byts l).length) := by
 rw [spanR, h]
 exact if_neg (by rw [List.length_append, List.length_append]; omega)
theorem Has_one : HasBody Tryz.prog F_decode_decoder_one := ⟨_, Tryz.func66, by kernel_rfl, by kernel_rfl⟩
theorem Has_run : HasBody Tryz.prog F_decode_decoder_run := ⟨_, Tryz.func68, by kernel_rfl, by kernel_rfl⟩
set_option maxHeartbeats 2000000 in
theorem records1_L {h0 h1 : Hp} {D W Tt N FM R : Nat} {tv bvv cv : AV} {rs : List Rn} (hD : h0 D = some (.row TD [[tv, bvv, .slc W 0 3 (some 3)]])) (hW : h0 W = some (.row TWay waysR))
  (hFind : ∀ H, Gr h0 H → CallL Tryz.prog F_table_Table_Find [.ptr Tt 0 0, .int .i32 2] H fun r h' => r = .ret (.tup [.agg rowR, .bool true]) ∧ Gr H h')
  (hok : ∀ p ∈ rs, p.ok) (hxs : (recV rs).length ≤ 100000000) (k1 : Rec1 h0 Tt N FM R cv (recB rs) none none 0 [] h1) :
  CallL Tryz.prog F_decode_decoder_records [.ptr D 0 0, .ptr N 0 0, .ptr R 0 0, .int .i64 1] h1 fun r h' => r = .ret (.tup []) ∧ ∃ fs, Rec1 h0 Tt N FM R cv (recB rs) none fs (recB rs).length (recV rs) h' ∧ (recV rs = [] → fs = none) := by
 have hbig := k1.rd.big
 refine K_decode_decoder_records (md := false) ?_
 generalize hb : recB rs = b at *
 refine s_blk (id := 0) (fun e' h' => e'.ds = [] ∧ ∃ fs, Rec1 h0 Tt N FM R cv b none fs b.length (recV rs) h' ∧ (recV rs = [] → fs = none)) ?_ ?_
 ·refine s_loop rs.length (fun q (s : List Rn × List Rn × Option (Nat × AV) × Hp) => s.1.length = q ∧ rs = s.1 ++ s.2.1 ∧ Rec1 h0 Tt N FM R cv b none s.2.2.1 (recB s.1).length (recV s.1) s.2.2.2 ∧ (recV s.1 = [] → s.2.2.1 = none))
   (fun _ _ => [(0, .ptr D 0 0), (1, .ptr N 0 0), (2, .ptr R 0 0), (3, .int .i64 1)]) (fun _ s => s.2.2.2) ([], rs, none, h1) ⟨rfl, rfl, k1, fun _ => rfl⟩ rfl rfl ⟨rfl, rfl, rfl, rfl, trivial⟩ (fun q s hI => by rw [← hI.1, hI.2.1, List.length_append]; omega) ?_
  rintro q ⟨dn, td, fs1, H⟩ n0 g0 hq ⟨q1, q2, k, q9⟩
  simp only at q1 q2 k q9
  have hbl : b = recB dn ++ recB td := by rw [← hb, q2, recB_app]
  have hll : b.length = (recB dn).length + (recB td).length := by rw [hbl, List.length_append]
  have hdr : b.drop (recB dn).length = recB td := by rw [hbl, List.drop_left]
  refine (Left_L R cv (recB dn).length b.length 0 H k.rd.row (by omega) hbig).mono ?_
  rintro r HH ⟨rfl, rfl⟩
  refine s_lt (fun (h2 : (0 : Int) < (b.length - (recB dn).length : Nat)) => ?_) (fun (h2 : ((b.length - (recB dn).length : Nat) : Int) ≤ 0) => ?_)
  ·cases td with
   | nil => have e0 : (recB []).length = 0 := rfl; omega
   | cons p td =>
    have hp := hok p (by rw [q2]; simp)
    have hpl := p.pos
    have hvl : (recV rs).length = (recV dn).length + (p.vals.length + (recV td).length) := by rw [q2, recV_app, recV_cons, List.length_append, List.length_append]
    have hpb : (recB (p :: td)).length = p.bytes.length + (recB td).length := by rw [recB_cons, List.length_append]
    have hq2 : q < rs.length := by rw [q2, List.length_append, List.length_cons]; omega
    have hdn : (dn ++ [p]).length = q + 1 := by rw [List.length_append, q1]; rfl
    have hrs2 : rs = (dn ++ [p]) ++ td := by rw [q2, List.append_assoc, List.singleton_append]
    have hbn : (recB (dn ++ [p])).length = (recB dn).length + p.bytes.length := by rw [recB_app, recB_one, List.length_append]
    have hvn : recV (dn ++ [p]) = recV dn ++ p.vals := by rw [recV_app, recV_one]
    have htag : ∃ c : Nat, (c = 0 ∨ c = 2) ∧ tagR (b.drop (recB dn).length) = .ok (2, c) 1 ∧ ((c = 0 ∧ ∃ t v, p = .one t v) ∨ (c = 2 ∧ ∃ hd l, p = .run hd l)) := by
     rw [hdr, recB_cons]
     cases p with
     | one t v => exact ⟨0, .inl rfl, tag16 _, .inl ⟨rfl, t, v, rfl⟩⟩
     | run hd l => exact ⟨2, .inr rfl, tag18 _, .inr ⟨rfl, hd, l, rfl⟩⟩
    obtain ⟨c, hc, htag, hcp⟩ := htag
    refine (dtag_L k.rd).mono ?_
    rintro r h2' hq2'
    rw [rest_all, htag] at hq2'
    obtain ⟨rfl, hq2'⟩ := hq2'
    have km := k.read (o' := (recB dn).length + 1) (by omega)
    rcases hq2' with ⟨h4, _⟩ | ⟨_, rfl⟩
    ·omega
    refine ⟨_, rfl, _, rfl, _, rfl, ?_⟩
    refine ⟨rfl, rfl, fun B9 hB9 => ?_⟩
    refine ⟨_, _, _, Hp.set_same _ _ _, rfl, rfl, rfl, rfl, by show 1 ≤ 1; decide, ?_⟩
    have g9 := ((Gr.refl (HH.set R (.row TR [RdC cv ((recB dn).length + 1 : Nat) b.length 0 0]))).set hB9.1 (Blk.row TWk [[.int .u8 0]])).set hB9.1 (Blk.row TWk [[.int .u8 c]])
    have k9 := km.gr g9
    refine ⟨_, _, _, _, k9.nd, rfl, rfl, ?_⟩
    refine (hFind _ k9.g).mono ?_
    rintro r hF ⟨rfl, gF⟩
    have kF := k9.gr gF
    have h9F := gF.blk (Hp.set_same (((HH.set R (.row TR [RdC cv ((recB dn).length + 1 : Nat) b.length 0 0])).set B9 (.row TWk [[.int .u8 0]]))) B9 (Blk.row TWk [[.int .u8 c]]))
    refine ⟨_, rfl, _, rfl, ?_⟩
    refine ⟨rfl, rfl, fun B1 hB1 => ?_⟩
    refine ⟨_, _, _, Hp.set_same _ _ _, rfl, rfl, rfl, rfl, by show 9 ≤ 9; decide, ?_⟩
    have g1 := ((Gr.refl hF).set hB1.1 (Blk.row TRow [row0])).set hB1.1 (Blk.row TRow [rowR])
    have k11 := kF.gr g1
    have b1 : ((hF.set B1 (.row TRow [row0])).set B1 (.row TRow [rowR])) B1 = some (.row TRow [rowR]) := Hp.set_same _ _ _
    refine ⟨_, _, _, _, k11.g.blk hD, rfl, rfl, ?_⟩
    refine (IndexFunc_L (k11.g.blk hW) b1 (g1.blk h9F) hc).mono ?_
    rintro r h3 ⟨rfl, g3⟩
    have k12 := k11.gr g3
    rcases hcp with ⟨rfl, t, v, rfl⟩ | ⟨rfl, hd, l, rfl⟩
    ·refine s_le (fun _ => ?_) (fun h5 => absurd h5 (by decide))
     refine ⟨_, _, _, _, k12.g.blk hD, rfl, rfl, ?_⟩
     refine ⟨1, rfl, by decide, ⟨_, k12.g.blk hW⟩, ?_⟩
     refine ⟨_, _, _, _, k12.g.blk hW, rfl, rfl, ?_⟩
     refine ⟨_, _, _, g3.blk b1, rfl, by show 9 ≤ 9; decide, ?_⟩
     have hp' : VS t v := hp
     have hdr1 : b.drop ((recB dn).length + 1) = t ++ recB td := by rw [← List.drop_drop, hdr, recB_cons]; rfl
     refine ⟨Has_one, (one_L (n := t.length) (v := v) k12 (by rw [hdr1]; exact hp' _) (by omega)).mono ?_⟩
     rintro r h6 ⟨rfl, F, v', k6⟩
     have hb6 : (recB dn).length + 1 + t.length = (recB (dn ++ [Rn.one t v])).length := by rw [hbn]; show _ = _ + (t.length + 1); omega
     rw [hb6] at k6
     exact ⟨(dn ++ [Rn.one t v], td, some (F, v'), h6), hq2, ⟨hdn, hrs2, by rw [hvn]; exact k6, fun e => by rw [hvn] at e; cases (List.append_eq_nil_iff.1 e).2⟩, rfl, rfl, rfl, rfl, rfl, rfl, trivial⟩
    ·refine s_le (fun _ => ?_) (fun h5 => absurd h5 (by decide))
     refine ⟨_, _, _, _, k12.g.blk hD, rfl, rfl, ?_⟩
     refine ⟨2, rfl, by decide, ⟨_, k12.g.blk hW⟩, ?_⟩
     refine ⟨_, _, _, _, k12.g.blk hW, rfl, rfl, ?_⟩
     refine ⟨_, _, _, g3.blk b1, rfl, by show 9 ≤ 9; decide, ?_⟩
     have hp' : VS hd (byts l).length ∧ ∀ p ∈ l, VS p.1 p.2 := hp
     have hdr1 : b.drop ((recB dn).length + 1) = hd ++ (byts l ++ recB td) := by rw [← List.drop_drop, hdr, recB_cons, ← List.append_assoc]; rfl
     have hdr2 : b.drop ((recB dn).length + 1 + hd.length) = byts l ++ recB td := by rw [← List.drop_drop, hdr1, List.drop_left]
     have hvl' : (Rn.run hd l).vals.length = l.length := List.length_map ..
     refine ⟨Has_run, (run_L (hd := hd.length) (l := l) k12 (by rw [hdr1]; exact span_of hp'.1 _) hdr2 hp'.2 (by omega) q9).mono ?_⟩
     rintro r h6 ⟨rfl, fs', k6, k9'⟩
     have hb6 : (recB dn).length + 1 + (hd.length + (byts l).length) = (recB (dn ++ [Rn.run hd l])).length := by rw [hbn]; show _ = _ + ((hd ++ byts l).length + 1); rw [List.length_append]; omega
     rw [hb6] at k6
     exact ⟨(dn ++ [Rn.run hd l], td, fs', h6), hq2, ⟨hdn, hrs2, by rw [hvn]; exact k6, by rw [hvn]; exact k9'⟩, rfl, rfl, rfl, rfl, rfl, rfl, trivial⟩
  ·have htd : td = [] := by
    cases td with
    | nil => rfl
    | cons p td =>
     have := p.pos
     have hpb : (recB (p :: td)).length = p.bytes.length + (recB td).length := by rw [recB_cons, List.length_append]
     omega
   subst htd
   rw [List.append_nil] at q2
   subst q2
   have : (recB rs).length = b.length := by rw [hb]
   rw [this] at k
   exact ⟨rfl, fs1, k, q9⟩
 ·rintro e' h' ⟨hd2, hh⟩
  exact ⟨hd2, rfl, hh⟩
end Go.Proofs.YtgjjbfhamlecoacGreatDoor

namespace Go.Proofs.YtgjjbfhamlecoacGreatDoor
open Go.L
abbrev TFV : TypeId := 49
abbrev Tint : TypeId := 3
def vlC (x : Nat) : List AV := [.int .u64 (narI x), .str [], .nils]
abbrev valsC (xs : List Nat) : List (List AV) := xs.map vlC
def fvC (v : AV) : List AV := [.int .i32 2, .nils, v]
def ordR (k n : Nat) : List (List AV) := (List.range k).map (fun i => [AV.int .i64 (i : Nat)]) ++ List.replicate (n - k) [.int .i64 0]
theorem ordR_set {k n : Nat} (h : k < n) : (ordR k n).set k [.int .i64 (k : Nat)] = ordR (k + 1) n := by
 have e : n - k = (n - (k + 1)) + 1 := by omega
 have hl : ((List.range k).map fun i => [AV.int .i64 (i : Nat)]).length = k := by simp
 rw [ordR, List.set_append, if_neg (by omega), hl, Nat.sub_self, e, List.replicate_succ, List.set_cons_zero, ordR, List.range_succ, List.map_append, List.append_assoc]
 rfl
theorem ordR_get {k n : Nat} (h : k < n) : (ordR n n)[k]? = some [.int .i64 (k : Nat)] := by
 rw [ordR, Nat.sub_self, List.replicate_zero, List.append_nil, List.getElem?_map, List.getElem?_range h]; rfl
theorem ordR_zero (n : Nat) : ordR 0 n = List.replicate n [.int .i64 0] := by simp [ordR]
theorem impl0_L (h : Hp) : CallL Tryz.prog F_decode_implicit [.agg rowR] h fun r h' => r = .ret (.bool false) ∧ Gr h h' := by
 refine K_decode_implicit (md := false) ?_
 refine ⟨rfl, rfl, fun B hB => ?_⟩
 refine ⟨_, _, _, _, Hp.set_same _ _ _, rfl, rfl, ?_⟩
 refine s_eq (fun h1 => absurd h1 (by decide)) (fun _ => ?_)
 exact ⟨rfl, rfl, (Gr.refl h).set hB.1 _⟩
theorem fv_lay {e : Env} {x : AOpd} (hx : ev e x = .int .i32 2) : lay e [.int .i32 0, .nils, .nils] [(0, 1, x)] = some (fvC .nils) := by
 rw [lay, hx]; rfl
def FldsQ (xs : List Nat) (h h' : Hp) (fv : AV) : Prop := ∃ fb lb, fv = .slc fb 0 1 none ∧ h.u fb = false ∧ h' fb = some (.row TFV [fvC (.slc lb 0 xs.length none)]) ∧ h' lb = some (.row TV (valsC xs)) ∧ h.u lb = false
structure MF (h : Hp) (B B2 : Nat) (full : Str) (fv : AV) (H : Hp) : Prop where
 g : Gr h H
 b2 : H B2 = some (.row TM [MsgC full fv .nils])
 b : H B = some (.row TM [[.str [], .nils, .nils]])
 n2 : h.u B2 = false
theorem MF.gr {h H H' : Hp} {B B2 : Nat} {full : Str} {fv : AV} (k : MF h B B2 full fv H) (g : Gr H H') : MF h B B2 full fv H' := ⟨k.g.trans g, g.blk k.b2, g.blk k.b, k.n2⟩
abbrev TpF : TypeId := 189
section
variable {h H : Hp} {N Tt FM F j AM B B2 is : Nat} {full : Str} {xs : List Nat}
abbrev E0 (N B B2 is : Nat) : List (Nat × AV) := [(0, .ptr N 0 0), (2, .ptr B 0 0), (3, .ptr B2 0 0), (28, .slc is 0 1 none), (29, .int .i64 1), (30, .int .i64 0)]
theorem m1_L (k : MF h B B2 full .nils H) (hN : h N = some (.row TN [[.ptr Tt 0 0, .map FM, .nils]])) (hFM : h FM = some (.map [(.int .i32 2, .ptr F 0 0, 0)] 1)) (his : H is = some (rwI [2])) (e : Env) (hd : e.ds = []) (hh : Has e (E0 N B B2 is)) (Q : Xit → Env → Hp → Prop) :
  LCode Tryz.prog false (.seq (.ops A_decode_node_msg_8) (.ops A_decode_node_msg_9)) (toPost (fun e' h' => e'.ds = [] ∧ ∃ B6, Gr H h' ∧ h' B6 = some (.row TpF [[.ptr F 0 0]]) ∧ Has e' [(0, .ptr N 0 0), (2, .ptr B 0 0), (3, .ptr B2 0 0), (28, .slc is 0 1 none), (29, .int .i64 1), (30, .int .i64 0), (5, .int .i32 2), (6, .ptr B6 0 0)]) Q) e H := by
 obtain ⟨n0, g0, rfl⟩ := hh.out hd
 refine ⟨0, rfl, by decide, ⟨_, his⟩, ?_⟩
 refine ⟨_, _, _, _, his, rfl, rfl, ?_⟩
 refine ⟨_, _, _, _, k.g.blk hN, rfl, rfl, ?_⟩
 refine ⟨_, _, k.g.blk hFM, rfl, key2_like _, fun r hr => ?_⟩
 obtain rfl : r = some (.ptr F 0 0) := hr
 refine ⟨rfl, rfl, fun B6 hB6 => ?_⟩
 refine ⟨_, _, _, Hp.set_same _ _ _, rfl, rfl, rfl, rfl, by show 1 ≤ 1; decide, ?_⟩
 exact ⟨rfl, B6, ((Gr.refl H).set hB6.1 _).set hB6.1 _, Hp.set_same _ _ _, rfl, rfl, rfl, rfl, rfl, rfl, rfl, rfl, trivial⟩
abbrev E1 (N B B2 is B6 : Nat) : List (Nat × AV) := [(0, .ptr N 0 0), (2, .ptr B 0 0), (3, .ptr B2 0 0), (28, .slc is 0 1 none), (29, .int .i64 1), (30, .int .i64 0), (5, .int .i32 2), (6, .ptr B6 0 0)]
theorem m2_L {B6 : Nat} (k : MF h B B2 full .nils H) (hF : h F = some (.row TF [fldC (.slc j 0 xs.length none) AM])) (hb6 : H B6 = some (.row TpF [[.ptr F 0 0]])) (hn : xs.length ≤ 100000000) (e : Env) (hd : e.ds = []) (hh : Has e (E1 N B B2 is B6)) (Q : Xit → Env → Hp → Prop) :
  LCode Tryz.prog false (.ops A_decode_node_msg_10) (toPost (fun e' h' => e'.ds = [] ∧ ∃ od, H.u od = false ∧ h' = H.set od (.row Tint (ordR 0 xs.length)) ∧ Has e' [(0, .ptr N 0 0), (2, .ptr B 0 0), (3, .ptr B2 0 0), (28, .slc is 0 1 none), (29, .int .i64 1), (30, .int .i64 0), (5, .int .i32 2), (6, .ptr B6 0 0), (7, .slc od 0 xs.length (some xs.length))]) Q) e H := by
 obtain ⟨n0, g0, rfl⟩ := hh.out hd
 refine ⟨_, _, _, _, hb6, rfl, rfl, ?_⟩
 refine ⟨_, _, _, _, k.g.blk hF, rfl, rfl, ?_⟩
 refine ⟨xs.length, xs.length, rfl, rfl, Nat.le_refl _, by unfold capMax; omega, by unfold capMax; omega, fun od hod => ?_⟩
 exact ⟨rfl, od, hod.1, by rw [ordR_zero], rfl, rfl, rfl, rfl, rfl, rfl, rfl, rfl, rfl, trivial⟩
abbrev E2 (N B B2 is B6 od n : Nat) : List (Nat × AV) := [(0, .ptr N 0 0), (2, .ptr B 0 0), (3, .ptr B2 0 0), (28, .slc is 0 1 none), (29, .int .i64 1), (30, .int .i64 0), (5, .int .i32 2), (6, .ptr B6 0 0), (7, .slc od 0 n (some n))]
theorem m3_L {B6 od : Nat} (hn : xs.length ≤ 100000000) (e : Env) (hd : e.ds = []) (hh : Has e (E2 N B B2 is B6 od xs.length)) (Q : Xit → Env → Hp → Prop) :
  LCode Tryz.prog false (.seq (.ops A_decode_node_msg_11) (.block 2 (.loop A_decode_node_msg_15))) (toPost (fun e' h' => e'.ds = [] ∧ h' = H.set od (.row Tint (ordR xs.length xs.length)) ∧ Has e' (E2 N B B2 is B6 od xs.length)) Q) e (H.set od (.row Tint (ordR 0 xs.length))) := by
 obtain ⟨n0, g0, rfl⟩ := hh.out hd
 refine s_blk (id := 2) (fun e' h' => e'.ds = [] ∧ h' = H.set od (.row Tint (ordR xs.length xs.length)) ∧ Has e' (E2 N B B2 is B6 od xs.length)) ?_ (fun _ _ h => h)
 refine s_loop xs.length (fun q (_ : Unit) => q ≤ xs.length) (fun q _ => [(0, .ptr N 0 0), (2, .ptr B 0 0), (3, .ptr B2 0 0), (28, .slc is 0 1 none), (29, .int .i64 1), (30, .int .i64 0), (5, .int .i32 2), (6, .ptr B6 0 0), (7, .slc od 0 xs.length (some xs.length)), (47, .int .i64 xs.length), (48, .int .i64 (q : Nat))])
  (fun q _ => H.set od (.row Tint (ordR q xs.length))) () (Nat.zero_le _) rfl rfl ⟨rfl, rfl, rfl, rfl, rfl, rfl, rfl, rfl, rfl, rfl, rfl, trivial⟩ (fun _ _ h => h) ?_
 rintro q _ n1 g1' hq _
 refine s_lt (fun (h1 : (q : Int) < xs.length) => ?_) (fun (h1 : (xs.length : Int) ≤ q) => ?_)
 ·have hg : (ordR q xs.length)[0 + q]? = some [.int .i64 0] := by
   have hl : ((List.range q).map fun i => [AV.int .i64 (i : Nat)]).length = q := by simp
   rw [Nat.zero_add, ordR, List.getElem?_append_right (by omega), hl, Nat.sub_self, show xs.length - q = (xs.length - (q + 1)) + 1 by omega]; rfl
  refine ⟨q, rfl, by omega, ⟨_, Hp.set_same _ _ _⟩, ?_⟩
  refine ⟨_, _, _, Hp.set_same _ _ _, hg, rfl, rfl, rfl, by show 1 ≤ 1; decide, ?_⟩
  refine s_nat (q + 1) (by omega) (by omega) ?_
  have hs : (ordR q xs.length).set (0 + q) [.int .i64 (q : Nat)] = ordR (q + 1) xs.length := by rw [Nat.zero_add]; exact ordR_set (by omega)
  exact ⟨(), by omega, by omega, (Hp.set_set _ _ _ _).trans (congrArg (fun z => H.set od (.row Tint z)) hs), rfl, rfl, rfl, rfl, rfl, rfl, rfl, rfl, rfl, rfl, rfl, rfl, trivial⟩
 ·obtain rfl : q = xs.length := by omega
  exact ⟨rfl, rfl, rfl, rfl, rfl, rfl, rfl, rfl, rfl, rfl, rfl, trivial⟩
theorem m4_L {B6 od : Nat} (k : MF h B B2 full .nils H) (hF : h F = some (.row TF [fldC (.slc j 0 xs.length none) AM])) (hb6 : H B6 = some (.row TpF [[.ptr F 0 0]])) (e : Env) (hd : e.ds = []) (hh : Has e (E2 N B B2 is B6 od xs.length)) (Q : Xit → Env → Hp → Prop) :
  LCode Tryz.prog false (.seq (.ops A_decode_node_msg_16) (.cond (.t 61) (.ops A_decode_node_msg_17) .skip)) (toPost (fun e' h' => e'.ds = [] ∧ h' = H ∧ Has e' (E2 N B B2 is B6 od xs.length)) Q) e H := by
 obtain ⟨n0, g0, rfl⟩ := hh.out hd
 refine ⟨_, _, _, _, hb6, rfl, rfl, ?_⟩
 refine ⟨_, _, _, _, k.g.blk hF, rfl, rfl, ?_⟩
 refine s_eq (fun h1 => absurd h1 (by decide)) (fun _ => ?_)
 exact ⟨rfl, rfl, rfl, rfl, rfl, rfl, rfl, rfl, rfl, rfl, rfl, trivial⟩
abbrev E3 (N B B2 is B6 od n B9 : Nat) : List (Nat × AV) := [(0, .ptr N 0 0), (2, .ptr B 0 0), (3, .ptr B2 0 0), (28, .slc is 0 1 none), (29, .int .i64 1), (30, .int .i64 0), (6, .ptr B6 0 0), (7, .slc od 0 n (some n)), (9, .ptr B9 0 0)]
theorem m5_L {B6 od : Nat} (e : Env) (hd : e.ds = []) (hh : Has e (E2 N B B2 is B6 od xs.length)) (Q : Xit → Env → Hp → Prop) :
  LCode Tryz.prog false (.ops A_decode_node_msg_18) (toPost (fun e' h' => e'.ds = [] ∧ ∃ B9, H.u B9 = false ∧ h' = H.set B9 (.row TFV [fvC .nils]) ∧ Has e' (E3 N B B2 is B6 od xs.length B9)) Q) e H := by
 obtain ⟨n0, g0, rfl⟩ := hh.out hd
 refine ⟨_, fv_lay rfl, ?_⟩
 refine ⟨rfl, rfl, fun B9 hB9 => ?_⟩
 refine ⟨_, _, _, Hp.set_same _ _ _, rfl, rfl, rfl, rfl, by show 3 ≤ 3; decide, ?_⟩
 exact ⟨rfl, B9, hB9.1, Hp.set_set _ _ _ _, rfl, rfl, rfl, rfl, rfl, rfl, rfl, rfl, rfl, trivial⟩
theorem items_get {q : Nat} {x : Nat} (hx : xs[q]? = some x) : (items xs)[q]? = some (itC x) := by rw [List.getElem?_map, hx]; rfl
set_option maxHeartbeats 1000000 in
theorem m6_L {B6 od B9 : Nat} (hF : H F = some (.row TF [fldC (.slc j 0 xs.length none) AM])) (hj : H j = some (.row TI (items xs))) (hb6 : H B6 = some (.row TpF [[.ptr F 0 0]])) (hod : H od = some (.row Tint (ordR xs.length xs.length))) (hB9 : H.u B9 = false) (hn : xs.length ≤ 100000000)
  (e : Env) (hd : e.ds = []) (hh : Has e (E3 N B B2 is B6 od xs.length B9)) (Q : Xit → Env → Hp → Prop) :
  LCode Tryz.prog false (.seq (.ops A_decode_node_msg_19) (.block 4 (.loop A_decode_node_msg_28))) (toPost (fun e' h' => e'.ds = [] ∧ (∃ lv, Gr H h' ∧ h' B9 = some (.row TFV [fvC lv]) ∧ AccE TV H h' lv (valsC xs)) ∧ Has e' (E3 N B B2 is B6 od xs.length B9)) Q) e (H.set B9 (.row TFV [fvC .nils])) := by
 obtain ⟨n0, g0, rfl⟩ := hh.out hd
 have gs := (Gr.refl H).set hB9 (.row TFV [fvC .nils])
 refine s_blk (id := 4) (fun e' h' => e'.ds = [] ∧ (∃ lv, Gr H h' ∧ h' B9 = some (.row TFV [fvC lv]) ∧ AccE TV H h' lv (valsC xs)) ∧ Has e' (E3 N B B2 is B6 od xs.length B9)) ?_ (fun _ _ h => h)
 refine s_loop xs.length (fun q (s : AV × Hp) => q ≤ xs.length ∧ Gr H s.2 ∧ s.2 B9 = some (.row TFV [fvC s.1]) ∧ AccE TV H s.2 s.1 (valsC (xs.take q))) (fun q _ => [(0, .ptr N 0 0), (2, .ptr B 0 0), (3, .ptr B2 0 0), (28, .slc is 0 1 none), (29, .int .i64 1), (30, .int .i64 0), (6, .ptr B6 0 0), (7, .slc od 0 xs.length (some xs.length)), (9, .ptr B9 0 0), (67, .slc od 0 xs.length (some xs.length)), (68, .int .i64 xs.length), (69, .int .i64 (q : Nat))])
  (fun _ s => s.2) (.nils, H.set B9 (.row TFV [fvC .nils])) ⟨Nat.zero_le _, gs, Hp.set_same _ _ _, gs, .inl ⟨rfl, rfl⟩⟩ rfl rfl ⟨rfl, rfl, rfl, rfl, rfl, rfl, rfl, rfl, rfl, rfl, rfl, rfl, trivial⟩ (fun _ _ h => h.1) ?_
 rintro q ⟨lv, H1⟩ n1 g1' hq ⟨_, g1, hb9, hacc⟩
 simp only at g1 hb9 hacc
 have hil := items_len xs
 refine s_lt (fun (h1 : (q : Int) < xs.length) => ?_) (fun (h1 : (xs.length : Int) ≤ q) => ?_)
 ·obtain ⟨x, hx⟩ := get_lt (l := xs) (k := q) (by omega)
  refine ⟨q, rfl, by omega, ⟨_, g1.blk hod⟩, ?_⟩
  refine ⟨_, _, _, _, g1.blk hod, (show (ordR xs.length xs.length)[0 + q]? = _ by rw [Nat.zero_add]; exact ordR_get (by omega)), rfl, ?_⟩
  refine ⟨_, _, _, _, g1.blk hb6, rfl, rfl, ?_⟩
  refine ⟨_, _, _, _, g1.blk hF, rfl, rfl, ?_⟩
  refine ⟨q, rfl, by omega, ⟨_, g1.blk hj⟩, ?_⟩
  have hit : (items xs)[0 + q]? = some (itC x) := by rw [Nat.zero_add]; exact items_get hx
  refine ⟨_, _, _, g1.blk hj, hit, by show 3 ≤ 4; decide, ?_⟩
  refine ⟨rfl, rfl, fun B12 hB12 => ?_⟩
  refine ⟨_, _, _, Hp.set_same _ _ _, rfl, rfl, rfl, rfl, by show 3 ≤ 3; decide, ?_⟩
  have g12 := ((Gr.refl H1).set hB12.1 (.row TV [[.int .u64 0, .str [], .nils]])).set hB12.1 (.row TV [vlC x])
  have b12 : ((H1.set B12 (.row TV [[.int .u64 0, .str [], .nils]])).set B12 (.row TV [vlC x])) B12 = some (.row TV [vlC x]) := Hp.set_same _ _ _
  have g2 := g1.trans g12
  refine ⟨_, _, _, _, g2.blk hb6, rfl, rfl, ?_⟩
  refine ⟨_, _, _, _, g2.blk hF, rfl, rfl, ?_⟩
  refine ⟨q, rfl, by omega, ⟨_, g2.blk hj⟩, ?_⟩
  refine ⟨_, _, _, _, g2.blk hj, hit, rfl, ?_⟩
  have hb92 := g12.blk hb9
  refine ⟨_, _, _, _, hb92, rfl, rfl, ?_⟩
  refine ⟨_, _, _, b12, rfl, by show 3 ≤ 3; decide, ?_⟩
  refine ⟨_, rfl, fun tb htb => ?_⟩
  refine ⟨[vlC x], ⟨_, _, Hp.set_same _ _ _, Nat.le_refl _, rfl⟩, ?_⟩
  have hvl : (valsC (xs.take q)).length ≤ 100000000 := by rw [List.length_map, List.length_take]; omega
  have gt := (Gr.refl _).set htb.1 (.row TV [vlC x])
  refine AccE.app (AccE.set (AccE.keep hacc g12) htb.1 _) (fun cs hcs => by rw [List.mem_singleton.1 hcs]; rfl) (fun cs hcs => by rw [List.mem_singleton.1 hcs]; rfl) (by rw [List.length_singleton]; unfold capMax; omega) (by rw [List.length_singleton]; unfold capMax; omega) fun v2 H5 ha hf hu hbb => ?_
  have hap : valsC (xs.take q) ++ [vlC x] = valsC (xs.take (q + 1)) := by rw [List.take_add_one, hx]; simp
  rw [hap] at ha
  have hlB : blkOf lv ≠ some B9 := fun e => by obtain ⟨_, w⟩ := AccE.blk hacc e; exact row_ne w hb9 (by decide) rfl
  have hb93 := gt.blk hb92
  have hb95 := (hf B9 (Hp.used hb93) hlB).trans hb93
  have hone := AccE.one ha
  have hv2B : blkOf v2 ≠ some B9 := fun e => by
   rcases hbb B9 e with h | h
   ·exact hlB h
   ·have hc := (Hp.used hb93).symm.trans h; cases hc
  have b65 := ha.1.blk hb6
  have F5 := ha.1.blk hF
  refine ⟨_, _, _, hb95, rfl, hone.1, by show v2.cells.length = 1; rw [hone.2.1]; rfl, by show flat v2.cells = true; rw [hone.2.1]; exact hone.2.2, by show 3 ≤ 3; decide, ?_⟩
  have hset : (Blk.row TFV [(fvC lv).take 2 ++ v2.cells ++ (fvC lv).drop 3]) = .row TFV [fvC v2] := by rw [hone.2.1]; rfl
  have gH := ha.1.set hB9 (Blk.row TFV [(fvC lv).take 2 ++ v2.cells ++ (fvC lv).drop 3])
  refine ⟨_, _, _, _, gH.blk hb6, rfl, rfl, ?_⟩
  refine ⟨_, _, _, _, gH.blk hF, rfl, rfl, ?_⟩
  refine s_eq (fun h1 => absurd h1 (by decide)) (fun _ => ?_)
  refine s_nat (q + 1) (by omega) (by omega) ?_
  exact ⟨(v2, _), by omega, ⟨by omega, gH, (Hp.set_same _ _ _).trans (congrArg some hset), AccE.put ha hB9 hv2B _⟩, rfl, rfl, rfl, rfl, rfl, rfl, rfl, rfl, rfl, rfl, rfl, rfl, rfl, rfl, trivial⟩
 ·obtain rfl : q = xs.length := by omega
  rw [List.take_length] at hacc
  exact ⟨rfl, ⟨lv, g1, hb9, hacc⟩, rfl, rfl, rfl, rfl, rfl, rfl, rfl, rfl, rfl, trivial⟩
theorem m7_L {B6 od B9 lb : Nat} (hF : H F = some (.row TF [fldC (.slc j 0 xs.length none) AM])) (hb6 : H B6 = some (.row TpF [[.ptr F 0 0]])) (hb9 : H B9 = some (.row TFV [fvC (.slc lb 0 xs.length none)])) (hx : xs ≠ [])
  (e : Env) (hd : e.ds = []) (hh : Has e (E3 N B B2 is B6 od xs.length B9)) (Q : Xit → Env → Hp → Prop) :
  LCode Tryz.prog false (.seq (.ops A_decode_node_msg_29) (.cond (.t 152) (.exit 1) .skip)) (toPost (fun e' h' => e'.ds = [] ∧ Gr H h' ∧ Has e' (E3 N B B2 is B6 od xs.length B9)) Q) e H := by
 obtain ⟨n0, g0, rfl⟩ := hh.out hd
 have hpos := List.length_pos_iff.2 hx
 refine ⟨_, _, _, _, hb9, rfl, rfl, ?_⟩
 refine s_eq (fun (h1 : (xs.length : Int) = 0) => by omega) (fun _ => ?_)
 refine ⟨_, _, _, _, hb6, rfl, rfl, ?_⟩
 refine ⟨_, _, _, hF, rfl, by show 9 ≤ 12; decide, ?_⟩
 refine (impl0_L H).mono ?_
 rintro r h' ⟨rfl, g⟩
 exact ⟨rfl, g, rfl, rfl, rfl, rfl, rfl, rfl, rfl, rfl, rfl, trivial⟩
theorem m8_L {B6 od B9 lb : Nat} (hB2 : H B2 = some (.row TM [MsgC full .nils .nils])) (hb9 : H B9 = some (.row TFV [fvC (.slc lb 0 xs.length none)])) (e : Env) (hd : e.ds = []) (hh : Has e (E3 N B B2 is B6 od xs.length B9)) (Q : Xit → Env → Hp → Prop) :
  LCode Tryz.prog false (.ops A_decode_node_msg_30) (toPost (fun e' h' => e'.ds = [] ∧ (∃ fb, H.u fb = false ∧ GrX B2 H h' ∧ h' fb = some (.row TFV [fvC (.slc lb 0 xs.length none)]) ∧ h' B2 = some (.row TM [MsgC full (.slc fb 0 1 none) .nils])) ∧ Has e' (E0 N B B2 is)) Q) e H := by
 obtain ⟨n0, g0, rfl⟩ := hh.out hd
 refine ⟨_, _, _, _, hB2, rfl, rfl, ?_⟩
 refine ⟨_, _, _, hb9, rfl, by show 3 ≤ 3; decide, ?_⟩
 refine ⟨_, rfl, fun tb htb => ?_⟩
 refine ⟨[fvC (.slc lb 0 xs.length none)], ⟨_, _, Hp.set_same _ _ _, Nat.le_refl _, rfl⟩, ?_⟩
 have gt := (Gr.refl H).set htb.1 (.row TFV [fvC (.slc lb 0 xs.length none)])
 refine AccE.app (AccE.nil TFV _) (fun cs hcs => by rw [List.mem_singleton.1 hcs]; rfl) (fun cs hcs => by rw [List.mem_singleton.1 hcs]; rfl) (show (0 + 1) * 56 ≤ capMax by decide) (show 0 + 1 ≤ capMax by decide) fun v2 H5 ha hf hu hbb => ?_
 obtain ⟨g5, ⟨rfl, e0⟩ | ⟨fb, rfl, hfb, hfb2⟩⟩ := ha
 ·cases e0
 have hb25 := g5.blk (gt.blk hB2)
 have hfbB : fb ≠ B2 := row_ne hfb2 hb25 (by decide)
 refine ⟨_, _, _, hb25, rfl, rfl, rfl, rfl, by show 2 ≤ 3; decide, ?_⟩
 have hfbH : H.u fb = false := gt.new hfb
 refine ⟨rfl, ⟨fb, hfbH, ?_, (Hp.set_ne hfbB).trans hfb2, Hp.set_same _ _ _⟩, rfl, rfl, rfl, rfl, rfl, rfl, trivial⟩
 have gg := gt.trans g5
 exact GrX.set ⟨fun x hx _ => gg.m x hx, gg.u⟩ _
end
set_option maxHeartbeats 4000000 in
theorem msg1_L {h : Hp} {N Tt FM F j AM : Nat} {full : Str} {os rs nm nv jv : AV} {xs : List Nat} (hN : h N = some (.row TN [[.ptr Tt 0 0, .map FM, .nils]])) (hT : h Tt = some (.row TTab [TabC (.str full) os rs nm nv jv]))
  (hFM : h FM = some (.map [(.int .i32 2, .ptr F 0 0, 0)] 1)) (hF : h F = some (.row TF [fldC (.slc j 0 xs.length none) AM])) (hj : h j = some (.row TI (items xs))) (hx : xs ≠ []) (hn : xs.length ≤ 100000000) :
  CallL Tryz.prog F_decode_node_msg [.ptr N 0 0] h fun r h' => Gr h h' ∧ ∃ fv, r = .ret (.agg (MsgC full fv .nils)) ∧ FldsQ xs h h' fv := by
 have hpos := List.length_pos_iff.2 hx
 refine K_decode_node_msg (md := false) ?_
 refine ⟨rfl, rfl, fun B hB => ?_⟩
 have g1 := (Gr.refl h).set hB.1 (.row TM [[.str [], .nils, .nils]])
 refine .inr (.inl ?_)
 refine ⟨_, _, _, _, g1.blk hN, rfl, rfl, ?_⟩
 refine ⟨.str full, fun h' hle => Type_L (hle _ _ (g1.blk hT)), ?_⟩
 refine ⟨_, _, _, _, g1.blk hN, rfl, rfl, ?_⟩
 refine ⟨_, Msg_lay ⟨rfl, rfl, rfl⟩ rfl rfl, ?_⟩
 refine ⟨rfl, rfl, fun B2 hB2 => ?_⟩
 refine ⟨_, _, _, Hp.set_same _ _ _, rfl, rfl, rfl, rfl, by show 3 ≤ 3; decide, ?_⟩
 have g3 := (g1.set (g1.new hB2.1) (.row TM [[.str [], .nils, .nils]])).set (g1.new hB2.1) (.row TM [MsgC full .nils .nils])
 have hBu : ((h.set B (.row TM [[.str [], .nils, .nils]])).u B) = true := by rw [Hp.set_u]; simp
 have hBB : B ≠ B2 := ne_of_u hBu hB2.1
 refine ⟨_, _, _, _, g3.blk hN, rfl, rfl, ?_⟩
 refine (KeysF_L FM _).mono ?_
 rintro r h4 ⟨c, rfl, hc, Tc, rfl⟩
 have g4 := g3.set (g3.new hc) (.row Tc [[.map FM]])
 have hgood : GoodM [((.int .i32 2 : AV), (.ptr F 0 0 : AV), 0)] 1 := ⟨fun x hx => (by rw [List.mem_singleton.1 hx]; rfl), fun x hx => (by rw [List.mem_singleton.1 hx]; exact Nat.one_pos), by simp⟩
 refine (Sorted_L (Hp.set_same _ _ _) (g4.blk hFM) hgood (show 1 ≤ 12 by decide) (by simp)).mono ?_
 rintro r h5 ⟨is, ys, rfl, hys, _, got⟩
 have g45 : Gr _ h5 := ⟨got.base, got.mono⟩
 have g5 := g4.trans g45
 obtain rfl : ys = [2] := List.perm_singleton.1 hys
 have his := got.row
 have hB2' := g45.blk ((Hp.set_ne (ne_of_u (by rw [Hp.set_u]; simp) hc)).trans (Hp.set_same ((h.set B (.row TM [[.str [], .nils, .nils]])).set B2 (.row TM [[.str [], .nils, .nils]])) B2 (.row TM [MsgC full .nils .nils])))
 have hB' := g45.blk ((Hp.set_ne (ne_of_u (by rw [Hp.set_u, Hp.set_u, Hp.set_u]; simp) hc)).trans ((Hp.set_ne hBB).trans ((Hp.set_ne hBB).trans (Hp.set_same h B (.row TM [[.str [], .nils, .nils]])))))
 have hB2n : h.u B2 = false := g1.new hB2.1
 have k5 : MF h B B2 full .nils h5 := ⟨g5, hB2', hB', hB2n⟩
 refine s_blk (id := 0) (fun e' h' => e'.ds = [] ∧ (∃ fv, Gr h h' ∧ h' B2 = some (.row TM [MsgC full fv .nils]) ∧ h' B = some (.row TM [[.str [], .nils, .nils]]) ∧ FldsQ xs h h' fv) ∧ Has e' [(2, .ptr B 0 0), (3, .ptr B2 0 0)]) ?_ ?_
 ·refine s_loop 1 (fun q (s : AV × Hp) => (q = 0 ∧ s.2 = h5) ∨ (q = 1 ∧ Gr h s.2 ∧ s.2 B2 = some (.row TM [MsgC full s.1 .nils]) ∧ s.2 B = some (.row TM [[.str [], .nils, .nils]]) ∧ FldsQ xs h s.2 s.1))
   (fun q _ => [(0, .ptr N 0 0), (2, .ptr B 0 0), (3, .ptr B2 0 0), (28, .slc is 0 1 none), (29, .int .i64 1), (30, .int .i64 (q : Nat))])
   (fun _ s => s.2) (.nils, h5) (.inl ⟨rfl, rfl⟩) rfl rfl ⟨rfl, rfl, rfl, rfl, rfl, rfl, trivial⟩ (fun q s hI => by rcases hI with hI | hI <;> omega) ?_
  rintro q ⟨fv, H⟩ n0 g0 _ hI
  rcases hI with ⟨rfl, hI⟩ | ⟨rfl, hI⟩
  ·simp only at hI
   subst hI
   refine s_lt (fun _ => ?_) (fun h1 => absurd h1 (by decide))
   refine s_blk (id := 1) (fun e' h' => e'.ds = [] ∧ (∃ fv, Gr h h' ∧ h' B2 = some (.row TM [MsgC full fv .nils]) ∧ h' B = some (.row TM [[.str [], .nils, .nils]]) ∧ FldsQ xs h h' fv) ∧ Has e' (E0 N B B2 is)) ?_ ?_
   ·refine s_then2 _ (m1_L k5 hN hFM his _ rfl ⟨rfl, rfl, rfl, rfl, rfl, rfl, trivial⟩ _) ?_
    rintro e1 H1 ⟨hd1, B6, q1, hb6, hh1⟩
    have k1 := k5.gr q1
    refine s_then _ (m2_L k1 hF hb6 hn e1 hd1 hh1 _) ?_
    rintro e2 H2 ⟨hd2, od, hod, rfl, hh2⟩
    have g2 := (Gr.refl H1).set hod (.row Tint (ordR xs.length xs.length))
    refine s_then _ (m3_L hn e2 hd2 hh2 _) ?_
    rintro e3 H3 ⟨hd3, rfl, hh3⟩
    have k3 := k1.gr g2
    have hb63 := g2.blk hb6
    refine s_then _ (m4_L k3 hF hb63 e3 hd3 hh3 _) ?_
    rintro e4 H4 ⟨hd4, rfl, hh4⟩
    refine s_then _ (m5_L e4 hd4 hh4 _) ?_
    rintro e5 H5 ⟨hd5, B9, hB9, rfl, hh5⟩
    refine s_then _ (m6_L (k3.g.blk hF) (k3.g.blk hj) hb63 (Hp.set_same _ _ _) hB9 hn e5 hd5 hh5 _) ?_
    rintro e6 H6 ⟨hd6, ⟨lv, g6, hb9, ⟨_, hacc⟩⟩, hh6⟩
    have k6 := k3.gr g6
    have hvl : (valsC xs).length = xs.length := List.length_map ..
    obtain ⟨lb, rfl, hlb, hlb2⟩ : ∃ lb, lv = .slc lb 0 xs.length none ∧ (H1.set od (.row Tint (ordR xs.length xs.length))).u lb = false ∧ H6 lb = some (.row TV (valsC xs)) := by
     rcases hacc with ⟨_, e0⟩ | ⟨lb, h1, h2, h3⟩
     ·rw [e0] at hvl; rw [← hvl] at hpos; cases hpos
     ·exact ⟨lb, by rw [h1, hvl], h2, h3⟩
    refine s_then _ (m7_L (k6.g.blk hF) (g6.blk hb63) hb9 hx e6 hd6 hh6 _) ?_
    rintro e7 H7 ⟨hd7, g7, hh7⟩
    have k7 := k6.gr g7
    have hm8 := m8_L (Q := fun _ _ _ => False) k7.b2 (g7.blk hb9) e7 hd7 hh7
    refine LCode_mono _ hm8 ?_
    intro y e8 H8 hy
    cases y with
    | normal =>
     obtain ⟨hd8, ⟨fb, hfb, x8, hfb2, hB28⟩, hh8⟩ := hy
     have hlbH := g7.blk hlb2
     refine ⟨hd8, ⟨.slc fb 0 1 none, ⟨fun x hxu => ?_, fun x hxu => ?_⟩, hB28, GrX.blk x8 k7.b hBB, fb, lb, rfl, k7.g.new hfb, hfb2, GrX.blk x8 hlbH (row_ne hlbH k7.b2 (by decide)), k3.g.new hlb⟩, hh8⟩
     ·exact (x8.m x (k7.g.u x hxu) (ne_of_u hxu hB2n)).trans (k7.g.m x hxu)
     ·exact x8.u x (k7.g.u x hxu)
    | exit i => exact hy.elim
    | ret => exact hy.elim
    | pan v => exact hy.elim
   ·rintro e8 H8 ⟨hd8, ⟨fv, hI⟩, hh8⟩
    obtain ⟨n8, g8, rfl⟩ := hh8.out hd8
    refine s_nat 1 rfl (by decide) ?_
    exact ⟨(fv, H8), by decide, .inr ⟨rfl, hI⟩, rfl, rfl, rfl, rfl, rfl, rfl, rfl, rfl, trivial⟩
  ·refine s_lt (fun h1 => absurd h1 (by decide)) (fun _ => ?_)
   exact ⟨rfl, ⟨fv, hI⟩, rfl, rfl, trivial⟩
 ·rintro e' h' ⟨hd, ⟨fv, gg, q1, q2, q3⟩, hh⟩
  obtain ⟨n0, g0, rfl⟩ := hh.out hd
  refine ⟨_, _, _, q1, rfl, by show 3 ≤ 3; decide, ?_⟩
  obtain ⟨fb, lb, rfl, k1, k2, k3, k4⟩ := q3
  have n1 : fb ≠ B := row_ne k2 q2 (by decide)
  have n2 : lb ≠ B := row_ne k3 q2 (by decide)
  refine ⟨_, _, _, q2, rfl, rfl, rfl, rfl, by show 3 ≤ 3; decide, ?_⟩
  refine ⟨rfl, ?_⟩
  refine ⟨_, _, _, Hp.set_same _ _ _, rfl, by show 3 ≤ 3; decide, ?_⟩
  exact ⟨gg.set hB.1 _, _, rfl, fb, lb, rfl, k1, (Hp.set_ne n1).trans k2, (Hp.set_ne n2).trans k3, k4⟩
end Go.Proofs.YtgjjbfhamlecoacGreatDoor

namespace Go.Proofs.YtgjjbfhamlecoacGreatDoor
open Go.L
theorem callL_at {f : FuncId} {a : List AV} {h h' : Hp} {Q : Res → Hp → Prop} (e : h = h') (k : CallL Tryz.prog f a h' Q) : CallL Tryz.prog f a h Q := e ▸ k
theorem Has_Into1 : HasBody Tryz.prog F_decode_Into_c1 := ⟨_, Tryz.func33, by kernel_rfl, by kernel_rfl⟩
theorem IntoD_ret (a b c : AV) (h : Hp) : DefL Tryz.prog F_decode_Into_c1 [a, b, c] .ret h fun r u h' => r = .ret (.tup []) ∧ u = .ret ∧ h' = h := by
 refine DefL.ofS (md := false) Tryz.func33 C_decode_Into_c1 (by rw [Tryz.ntmps33]; exact (show 3 ≤ 17 by decide)) (by
  rw [Tryz.ntmps33]
  exact ⟨rfl, rfl, rfl, rfl⟩)
abbrev eC (n : Int) : List AV := [.int .i64 n]
theorem ways_L (h : Hp) : CallL Tryz.prog F_decode_ways [] h fun r h' => ∃ W, r = .ret (.slc W 0 3 (some 3)) ∧ h.u W = false ∧ h' = h.set W (.row TWay waysR) := by
 refine K_decode_ways (md := false) ?_
 refine ⟨_, rfl, _, rfl, _, rfl, ?_⟩
 refine ⟨_, rfl, fun W hW => ?_⟩
 exact ⟨rfl, W, rfl, hW.1, rfl⟩
end Go.Proofs.YtgjjbfhamlecoacGreatDoor

namespace Go.Proofs.YtgjjbfhamlecoacGreatDoor
open Go.L
def loN : Str → Nat
 | [] => 0
 | x :: p => x.toNat % 128 + 128 * loN p
theorem loN_snoc (p : Str) (c : UInt8) : loN (p ++ [c]) = loN p + 128 ^ p.length * (c.toNat % 128) := by
 induction p with
 | nil => simp [loN]
 | cons x p ih =>
  rw [List.cons_append, loN, ih, loN, List.length_cons, Nat.pow_succ', Nat.mul_add, Nat.mul_assoc]
  omega
theorem rdN_bytes : ∀ (p : Str) (f i acc : Nat) (c : UInt8) (r : Str), f + i = 10 → i + p.length ≤ 9 → (i + p.length = 9 → c.toNat ≤ 1) → (∀ x ∈ p, 128 ≤ x.toNat) → c.toNat < 128 →
  rdN f i acc (p ++ c :: r) = .ok (acc + 128 ^ i * (loN p + 128 ^ p.length * c.toNat)) (i + p.length + 1)
 | [], f, i, acc, c, r, hf, hl, h9, hp, hc => by
  obtain ⟨f, rfl⟩ : ∃ g, f = g + 1 := ⟨f - 1, by rw [List.length_nil] at hl; omega⟩
  rw [List.nil_append, rdN, if_neg (fun h => by have := h9 (by rw [List.length_nil]; omega); omega), if_pos hc, Nat.mod_eq_of_lt hc]
  simp [loN, Nat.mul_comm]
 | x :: p, f, i, acc, c, r, hf, hl, h9, hp, hc => by
  rw [List.length_cons] at hl h9
  obtain ⟨f, rfl⟩ : ∃ g, f = g + 1 := ⟨f - 1, by omega⟩
  have hx := hp x List.mem_cons_self
  rw [List.cons_append, rdN, if_neg (by omega), if_neg (by omega), rdN_bytes p f (i + 1) _ c r (by omega) (by omega) (fun h => h9 (by omega)) (fun y hy => hp y (List.mem_cons_of_mem _ hy)) hc]
  congr 1
  ·rw [loN, List.length_cons, Nat.pow_succ', Nat.pow_succ', Nat.mul_add, Nat.mul_add, Nat.mul_comm (x.toNat % 128)]
   have e1 : 128 * 128 ^ i * loN p = 128 ^ i * (128 * loN p) := by rw [Nat.mul_comm 128, Nat.mul_assoc]
   have e2 : 128 * 128 ^ i * (128 ^ p.length * c.toNat) = 128 ^ i * (128 * 128 ^ p.length * c.toNat) := by rw [Nat.mul_comm 128, Nat.mul_assoc, Nat.mul_assoc]
   rw [e1, e2, Nat.mul_add (128 ^ i)]
   omega
  ·rw [List.length_cons]; omega
structure VB (p : Str) (c : UInt8) (v : Nat) : Prop where
 hi : ∀ x ∈ p, 128 ≤ x.toNat
 lo : c.toNat < 128
 len : p.length ≤ 9
 nine : p.length = 9 → c.toNat ≤ 1
 val : v = loN p + 128 ^ p.length * c.toNat
theorem VB.vs {p : Str} {c : UInt8} {v : Nat} (k : VB p c v) : VS (p ++ [c]) v := fun r => by
 have := rdN_bytes p 10 0 0 c r rfl (by have := k.len; omega) (fun h => k.nine (by omega)) k.hi k.lo
 rw [List.append_assoc, List.singleton_append, rdV, this, k.val, List.length_append]
 simp
theorem VB.more {p : Str} {c : UInt8} {v : Nat} (k : VB p c v) (hl : p.length < 9) : VB (p ++ [(c.toNat + 128).toUInt8]) 0 v := by
 have h1 := k.lo
 have h2 : ((c.toNat + 128).toUInt8).toNat = c.toNat + 128 := by simp; omega
 refine ⟨fun x hx => ?_, by decide, by rw [List.length_append, List.length_singleton]; omega, fun _ => by decide, ?_⟩
 ·rcases List.mem_append.1 hx with h | h
  ·exact k.hi x h
  ·rw [List.mem_singleton.1 h, h2]; omega
 ·rw [loN_snoc, h2, show (c.toNat + 128) % 128 = c.toNat by omega, k.val]; simp
theorem at1_L {Tt RW : Nat} {full os nm nv jv : AV} {rows : List (List AV)} {i n : Nat} {rw_ : List AV} {h : Hp} (hT : h Tt = some (.row TTab [TabC full os (.slc RW 0 n none) nm nv jv])) (hR : h RW = some (.row TRow rows)) (hi : rows[i]? = some rw_) (hn : i < n) (hl : rw_.length = 9) (hf : flat rw_ = true) :
  CallL Tryz.prog F_table_Table_at [.ptr Tt 0 0, .int .i64 i, .bool true] h fun r h' => r = .ret (.tup [.agg rw_, .bool true]) ∧ Gr h h' := by
 obtain ⟨a, b, c, d, e, f, g, j, k, rfl⟩ : ∃ a b c d e f g j k, rw_ = [a, b, c, d, e, f, g, j, k] := by
  match rw_, hl with
  | [a, b, c, d, e, f, g, j, k], _ => exact ⟨a, b, c, d, e, f, g, j, k, rfl⟩
 refine K_table_Table_at (md := false) ?_
 refine ⟨rfl, rfl, fun B hB => ?_⟩
 have g1 := (Gr.refl h).set hB.1 (.row TRow [row0])
 refine ⟨_, _, _, _, g1.blk hT, rfl, rfl, ?_⟩
 refine ⟨i, rfl, hn, ⟨_, g1.blk hR⟩, ?_⟩
 refine ⟨_, _, _, g1.blk hR, (show rows[0 + i]? = _ by rw [Nat.zero_add]; exact hi), by show 9 ≤ 9; decide, ?_⟩
 refine ⟨_, _, _, Hp.set_same _ _ _, rfl, rfl, rfl, hf, by show 9 ≤ 9; decide, ?_⟩
 refine ⟨rfl, ?_⟩
 refine ⟨_, _, _, Hp.set_same _ _ _, rfl, by show 9 ≤ 9; decide, ?_⟩
 exact ⟨rfl, g1.set hB.1 _⟩
theorem Find1_L {Tt RW NM clk : Nat} {full os nv jv : AV} {rows : List (List AV)} {i n : Nat} {z : Int} {es : MapL} {rw_ : List AV} {h : Hp} (hT : h Tt = some (.row TTab [TabC full os (.slc RW 0 n none) (.map NM) nv jv])) (hR : h RW = some (.row TRow rows)) (hN : h NM = some (.map es clk))
  (hk : KeysLike (.int .i32 z) es) (hg : mget (.int .i32 z) es = some (.int .i64 i)) (hi : rows[i]? = some rw_) (hn : i < n) (hl : rw_.length = 9) (hf : flat rw_ = true) :
  CallL Tryz.prog F_table_Table_Find [.ptr Tt 0 0, .int .i32 z] h fun r h' => r = .ret (.tup [.agg rw_, .bool true]) ∧ Gr h h' := by
 refine K_table_Table_Find (md := false) ?_
 refine ⟨rfl, rfl, fun B hB => ?_⟩
 have g1 := (Gr.refl h).set hB.1 (.row TRow [row0])
 refine ⟨_, _, _, _, g1.blk hT, rfl, rfl, ?_⟩
 refine ⟨_, _, g1.blk hN, rfl, hk, fun r hr => ?_⟩
 obtain rfl : r = some (.int .i64 i) := hr.trans hg
 refine ⟨_, rfl, _, rfl, ?_⟩
 refine (at1_L (g1.blk hT) (g1.blk hR) hi hn hl hf).mono ?_
 rintro r h2 ⟨rfl, g2⟩
 refine ⟨_, rfl, _, rfl, ?_⟩
 have hB2 := g2.blk (Hp.set_same _ _ _)
 obtain ⟨a, b, c, d, e, f, g, j, k, rfl⟩ : ∃ a b c d e f g j k, rw_ = [a, b, c, d, e, f, g, j, k] := by
  match rw_, hl with
  | [a, b, c, d, e, f, g, j, k], _ => exact ⟨a, b, c, d, e, f, g, j, k, rfl⟩
 refine ⟨_, _, _, hB2, rfl, rfl, rfl, hf, by show 9 ≤ 9; decide, ?_⟩
 refine ⟨rfl, ?_⟩
 refine ⟨_, _, _, Hp.set_same _ _ _, rfl, by show 9 ≤ 9; decide, ?_⟩
 exact ⟨rfl, (g1.trans g2).set hB.1 _⟩
end Go.Proofs.YtgjjbfhamlecoacGreatDoor

namespace Go.Proofs.YtgjjbfhamlecoacGreatDoor
open Go.L
abbrev F_lexiconlaw12_DecodeRuns : Nat := 3
def A_lexiconlaw12_DecodeRuns_0 : LA := [o_ 19 (.call 4 []), mv 5 19]
def A_lexiconlaw12_DecodeRuns_1 : LA := [o_ 21 (.call 6 []), o_ 22 (.bslice 35 5 1 [.str [], .str [], .nils, .nils, .nils] [(0, 5, (.t 21))]), o_ 23 (.call 5 [(.t 22)]), mv 20 23, Wx 24 0 20, Wx 25 1 20, o_ 7 (.box 28 2 (.c (.agg [.int .i64 (0), .str []]))), mv 6 24, Ws 2 7 25]
def A_lexiconlaw12_DecodeRuns_2 : LA := [mv 26 5, o_ 27 (.not (.t 26)), mv 28 27, Whm 29 0 28, Wh 30 (.lenl (.t 29)) 28, Wh 31 (.bini .gtr (.t 30) (i_ 100000)) 28, Wq 32 28 31, mv 33 32, Whm 34 6 33, Wh 35 (.isnil .pt false (.t 34)) 33, Wq 36 33 35, mv 37 36, Wh 38 (.faddr 0 (.t 7)) 37, Wh 39 (.ld1 (.t 38)) 37, Wh 40 (.bini .neq (.t 39) (i_ 0)) 37, Wq 41 37 40]
def A_lexiconlaw12_DecodeRuns_3 : LA := [mv 42 5, mv 4 42]
def A_lexiconlaw12_DecodeRuns_4 : LA := [mv 43 6, o_ 44 (.call 7 [(.t 43)]), mv 8 44]
def A_lexiconlaw12_DecodeRuns_5 : LA := [mv 45 10, mv 46 0, We 47 46, Wb 48 .lss 45 47]
def A_lexiconlaw12_DecodeRuns_6 : LA := [mv 49 11, mv 50 1, We 51 50, Wb 52 .lss 49 51]
def A_lexiconlaw12_DecodeRuns_7 : LA := [mv 53 1, mv 54 11, Wa 55 3 1 53 54, Wl 56 55, Wi 57 .rem 56 50, mv 12 57]
def A_lexiconlaw12_DecodeRuns_8 : LA := [mv 58 11, Wi 59 .add 58 1, mv 11 59]
def A_lexiconlaw12_DecodeRuns_9 : LA := [mv 60 12, Wi 61 .leq 60 0]
def A_lexiconlaw12_DecodeRuns_10 : LA := [mv 62 9, o_ 63 (.bslice 5 1 1 [.int .u8 0] [(0, 1, (.c (.int .u8 16)))]), o_ 64 (.app 5 1 1 (.t 62) (.t 63)), mv 9 64]
def A_lexiconlaw12_DecodeRuns_11 : LA := [mv 65 9, mv 66 0, mv 67 10, Wa 68 41 1 66 67, Wl 69 68, mv 70 12, o_ 71 (.neg (.t 70)), o_ 72 (.call 8 [(.t 69), (.t 71)]), o_ 73 (.app 5 1 1 (.t 65) (.t 72)), mv 9 73]
def A_lexiconlaw12_DecodeRuns_12 : LA := [mv 74 10, Wi 75 .add 74 1, mv 10 75]
def A_lexiconlaw12_DecodeRuns_13 : LA := [mv 76 14, mv 77 12, Wb 78 .lss 76 77, mv 79 78, Wgm 80 10 79, Wgm 81 0 79, g_ 82 (.lenl (.t 81)) 79, g_ 83 (.bini .lss (.t 80) (.t 82)) 79, Wp 84 79 83]
def A_lexiconlaw12_DecodeRuns_14 : LA := [mv 87 13, mv 88 0, mv 89 10, Wa 90 41 1 88 89, Wl 91 90, mv 92 12, Wi 93 .rem 92 3, o_ 94 (.call 8 [(.t 91), (.t 93)]), o_ 95 (.app 5 1 1 (.t 87) (.t 94)), mv 13 95]
def A_lexiconlaw12_DecodeRuns_15 : LA := [mv 96 10, Wi 97 .add 96 1, mv 10 97]
def A_lexiconlaw12_DecodeRuns_16 : LA := [mv 85 14, Wi 86 .add 85 1, mv 14 86]
def A_lexiconlaw12_DecodeRuns_17 : ACode := (.seq (.seq (.ops A_lexiconlaw12_DecodeRuns_13) (.cond (.t 84) .skip (.exit 2))) (.seq (.block 3 (.seq (.ops A_lexiconlaw12_DecodeRuns_14) (.ops A_lexiconlaw12_DecodeRuns_15))) (.ops A_lexiconlaw12_DecodeRuns_16)))
def A_lexiconlaw12_DecodeRuns_18 : LA := [mv 98 9, o_ 99 (.bslice 5 1 1 [.int .u8 0] [(0, 1, (.c (.int .u8 18)))]), o_ 100 (.app 5 1 1 (.t 98) (.t 99)), mv 9 100]
def A_lexiconlaw12_DecodeRuns_19 : LA := [mv 101 9, mv 102 13, We 103 102, o_ 104 (.conv .u64 (.t 103)), mv 105 12, Wi 106 .rem 105 2, o_ 107 (.call 8 [(.t 104), (.t 106)]), o_ 108 (.app 5 1 1 (.t 101) (.t 107)), mv 9 108]
def A_lexiconlaw12_DecodeRuns_20 : LA := [mv 109 9, mv 110 13, o_ 111 (.app 5 1 1 (.t 109) (.t 110)), mv 9 111]
def A_lexiconlaw12_DecodeRuns_21 : ACode := (.seq (.seq (.ops A_lexiconlaw12_DecodeRuns_5) (.cond (.t 48) .skip (.exit 0))) (.block 1 (.seq (.ops [Wm 12 1]) (.seq (.seq (.ops A_lexiconlaw12_DecodeRuns_6) (.cond (.t 52) (.ops A_lexiconlaw12_DecodeRuns_7) .skip)) (.seq (.ops A_lexiconlaw12_DecodeRuns_8) (.seq (.seq (.ops A_lexiconlaw12_DecodeRuns_9) (.cond (.t 61) (.seq (.ops A_lexiconlaw12_DecodeRuns_10) (.seq (.ops A_lexiconlaw12_DecodeRuns_11) (.seq (.ops A_lexiconlaw12_DecodeRuns_12) (.exit 1)))) .skip)) (.seq (.ops [Wn 13]) (.seq (.seq (.ops [Wm 14 0]) (.block 2 (.loop A_lexiconlaw12_DecodeRuns_17))) (.seq (.ops A_lexiconlaw12_DecodeRuns_18) (.seq (.ops A_lexiconlaw12_DecodeRuns_19) (.ops A_lexiconlaw12_DecodeRuns_20)))))))))))
def A_lexiconlaw12_DecodeRuns_22 : LA := [mv 113 8, o_ 114 (.mkifc 37 (.t 113)), mv 115 9, o_ 116 (.call 9 [(.t 114), (.c (.str [77])), (.t 115)]), mv 112 116, Wx 117 0 112, Wx 118 1 112, Wx 119 2 112, o_ 15 (.box 44 3 (.c (.agg [.str [], .nils, .nils]))), Ws 3 15 117, mv 16 118, mv 17 119]
def A_lexiconlaw12_DecodeRuns_23 : LA := [mv 120 16, Wi 121 .neq 120 0]
def A_lexiconlaw12_DecodeRuns_24 : LA := [mv 122 0, We 123 122, Wi 124 .eql 123 0]
def A_lexiconlaw12_DecodeRuns_25 : LA := [Wf 125 1 15, Wl 126 125, We 127 126, Wi 128 .eql 127 0, mv 4 128]
def A_lexiconlaw12_DecodeRuns_26 : LA := [Wf 129 1 15, Wl 130 129, We 131 130, Wi 132 .neq 131 1, mv 133 132, Wh 134 (.faddr 1 (.t 15)) 133, Wh 135 (.ld1 (.t 134)) 133, Wh 136 (.iaddr 49 3 (.t 135) (i_ 0)) 133, Wh 137 (.faddr 0 (.t 136)) 133, Wh 138 (.ld1 (.t 137)) 133, Wh 139 (.bini .neq (.t 138) (.c (.int .i32 2))) 133, Wq 140 133 139, mv 141 140, Wh 142 (.faddr 1 (.t 15)) 141, Wh 143 (.ld1 (.t 142)) 141, Wh 144 (.iaddr 49 3 (.t 143) (i_ 0)) 141, Wh 145 (.faddr 2 (.t 144)) 141, Wh 146 (.ld1 (.t 145)) 141, Wh 147 (.lenl (.t 146)) 141, Whm 148 0 141, Wh 149 (.lenl (.t 148)) 141, Wh 150 (.bini .neq (.t 147) (.t 149)) 141, Wq 151 141 150]
def A_lexiconlaw12_DecodeRuns_27 : LA := [mv 152 18, mv 153 0, We 154 153, Wb 155 .lss 152 154]
def A_lexiconlaw12_DecodeRuns_28 : LA := [Wf 158 1 15, Wl 159 158, o_ 160 (.iaddr 49 3 (.t 159) (i_ 0)), Wf 161 2 160, Wl 162 161, mv 163 18, Wa 164 52 3 162 163, Wf 165 0 164, Wl 166 165, mv 167 0, mv 168 18, Wa 169 41 1 167 168, Wl 170 169, o_ 171 (.conv .i32 (.t 170)), o_ 172 (.conv .i64 (.t 171)), o_ 173 (.conv .u64 (.t 172)), Wb 174 .neq 166 173]
def A_lexiconlaw12_DecodeRuns_29 : LA := [mv 156 18, Wi 157 .add 156 1, mv 18 157]
def A_lexiconlaw12_DecodeRuns_30 : ACode := (.seq (.seq (.ops A_lexiconlaw12_DecodeRuns_27) (.cond (.t 155) .skip (.exit 4))) (.seq (.block 5 (.seq (.alts [158, 159, 160, 161, 162, 163, 164, 165, 166, 167, 168, 169, 170, 171, 172, 173, 174] [A_lexiconlaw12_DecodeRuns_28]) (.cond (.t 174) (.seq (.ops [Wo 4 false]) .ret) .skip))) (.ops A_lexiconlaw12_DecodeRuns_29)))
def A_lexiconlaw12_DecodeRuns_31 : LA := [Wf 175 2 15, Wl 176 175, We 177 176, Wi 178 .eql 177 0, mv 4 178]
def A_lexiconlaw12_DecodeRuns : ACode := (.seq (.ops [Wo 4 false]) (.seq (.ops A_lexiconlaw12_DecodeRuns_0) (.seq (.ops A_lexiconlaw12_DecodeRuns_1) (.seq (.seq (.ops A_lexiconlaw12_DecodeRuns_2) (.cond (.t 41) (.seq (.ops A_lexiconlaw12_DecodeRuns_3) .ret) .skip)) (.seq (.ops A_lexiconlaw12_DecodeRuns_4) (.seq (.ops [Wn 9]) (.seq (.ops [Wm 10 0]) (.seq (.ops [Wm 11 0]) (.seq (.block 0 (.loop A_lexiconlaw12_DecodeRuns_21)) (.seq (.ops A_lexiconlaw12_DecodeRuns_22) (.seq (.seq (.ops A_lexiconlaw12_DecodeRuns_23) (.cond (.t 121) (.seq (.ops [Wo 4 false]) .ret) .skip)) (.seq (.seq (.ops A_lexiconlaw12_DecodeRuns_24) (.cond (.t 124) (.seq (.ops A_lexiconlaw12_DecodeRuns_25) .ret) .skip)) (.seq (.seq (.ops A_lexiconlaw12_DecodeRuns_26) (.cond (.t 151) (.seq (.ops [Wo 4 false]) .ret) .skip)) (.seq (.seq (.ops [Wm 18 0]) (.block 4 (.loop A_lexiconlaw12_DecodeRuns_30))) (.seq (.ops A_lexiconlaw12_DecodeRuns_31) .ret)))))))))))))))
def R_lexiconlaw12_DecodeRuns : List ARes := [.tmp 4]
theorem C_lexiconlaw12_DecodeRuns : compF Tryz.prog Tryz.f3 = some (A_lexiconlaw12_DecodeRuns, R_lexiconlaw12_DecodeRuns) := by kernel_rfl
theorem K_lexiconlaw12_DecodeRuns {md : Bool} {args : List AV} {h : Hp} {Q : Res → Hp → Prop} (hl : LCode Tryz.prog md A_lexiconlaw12_DecodeRuns (EndQ R_lexiconlaw12_DecodeRuns Q) (env0 179 args) h) (hn : args.length ≤ 179 := by (simp; done)) : CallL Tryz.prog F_lexiconlaw12_DecodeRuns args h Q :=
 CallL.of (md := md) Tryz.func3 C_lexiconlaw12_DecodeRuns (by rw [Tryz.ntmps3]; exact hn) (by rw [Tryz.ntmps3]; exact hl)
abbrev F_lexiconlaw12_varint : Nat := 8
def A_lexiconlaw12_varint_0 : LA := [mv 7 0, o_ 8 (.bini .geq (.t 7) (.c (.int .u64 128)))]
def A_lexiconlaw12_varint_1 : LA := [mv 9 5, mv 10 0, o_ 11 (.bini .rem (.t 10) (.c (.int .u64 128))), o_ 12 (.conv .u8 (.t 11)), o_ 13 (.bini .add (.t 12) (.c (.int .u8 128))), o_ 14 (.bslice 5 1 1 [.int .u8 0] [(0, 1, (.t 13))]), o_ 15 (.app 5 1 1 (.t 9) (.t 14)), mv 5 15]
def A_lexiconlaw12_varint_2 : LA := [mv 16 0, o_ 17 (.bini .quo (.t 16) (.c (.int .u64 128))), mv 0 17]
def A_lexiconlaw12_varint_3 : ACode := (.seq (.seq (.ops A_lexiconlaw12_varint_0) (.cond (.t 8) .skip (.exit 0))) (.block 1 (.seq (.ops A_lexiconlaw12_varint_1) (.ops A_lexiconlaw12_varint_2))))
def A_lexiconlaw12_varint_4 : LA := [mv 18 5, mv 19 0, o_ 20 (.conv .u8 (.t 19)), o_ 21 (.bslice 5 1 1 [.int .u8 0] [(0, 1, (.t 20))]), o_ 22 (.app 5 1 1 (.t 18) (.t 21)), mv 5 22]
def A_lexiconlaw12_varint_5 : LA := [mv 23 6, mv 24 1, Wb 25 .lss 23 24, mv 26 25, Wgm 27 5 26, g_ 28 (.lenl (.t 27)) 26, g_ 29 (.bini .lss (.t 28) (i_ 10)) 26, Wp 30 26 29]
def A_lexiconlaw12_varint_6 : LA := [mv 33 5, mv 34 5, We 35 34, Wi 36 .sub 35 1, mv 37 5, mv 38 5, We 39 38, Wi 40 .sub 39 1, Wa 41 5 1 37 40, Wl 42 41, o_ 43 (.bini .add (.t 42) (.c (.int .u8 128))), Wa 44 5 1 33 36, Ws 1 44 43]
def A_lexiconlaw12_varint_7 : LA := [mv 45 5, o_ 46 (.bslice 5 1 1 [.int .u8 0] [(0, 1, (.c (.int .u8 0)))]), o_ 47 (.app 5 1 1 (.t 45) (.t 46)), mv 5 47]
def A_lexiconlaw12_varint_8 : LA := [mv 31 6, Wi 32 .add 31 1, mv 6 32]
def A_lexiconlaw12_varint_9 : ACode := (.seq (.seq (.ops A_lexiconlaw12_varint_5) (.cond (.t 30) .skip (.exit 2))) (.seq (.block 3 (.seq (.ops A_lexiconlaw12_varint_6) (.ops A_lexiconlaw12_varint_7))) (.ops A_lexiconlaw12_varint_8)))
def A_lexiconlaw12_varint_10 : LA := [mv 48 5, mv 4 48]
def A_lexiconlaw12_varint : ACode := (.seq (.ops [Wn 4]) (.seq (.ops [Wn 5]) (.seq (.block 0 (.loop A_lexiconlaw12_varint_3)) (.seq (.ops A_lexiconlaw12_varint_4) (.seq (.seq (.ops [Wm 6 0]) (.block 2 (.loop A_lexiconlaw12_varint_9))) (.seq (.ops A_lexiconlaw12_varint_10) .ret))))))
def R_lexiconlaw12_varint : List ARes := [.tmp 4]
theorem C_lexiconlaw12_varint : compF Tryz.prog Tryz.f8 = some (A_lexiconlaw12_varint, R_lexiconlaw12_varint) := by kernel_rfl
theorem K_lexiconlaw12_varint {md : Bool} {args : List AV} {h : Hp} {Q : Res → Hp → Prop} (hl : LCode Tryz.prog md A_lexiconlaw12_varint (EndQ R_lexiconlaw12_varint Q) (env0 49 args) h) (hn : args.length ≤ 49 := by (simp; done)) : CallL Tryz.prog F_lexiconlaw12_varint args h Q :=
 CallL.of (md := md) Tryz.func8 C_lexiconlaw12_varint (by rw [Tryz.ntmps8]; exact hn) (by rw [Tryz.ntmps8]; exact hl)
end Go.Proofs.YtgjjbfhamlecoacGreatDoor

namespace Go.Proofs.YtgjjbfhamlecoacGreatDoor
open Go.L
theorem bt_hi' (w : Nat) : bt [(w % 128 + 128).toUInt8] = [[.int .u8 ((w % 128 + 128 : Nat) : Int)]] := by
 rw [bt, List.map_singleton, show ((w % 128 + 128).toUInt8).toNat = w % 128 + 128 by simp; omega]
theorem bt_set_last (p : Str) (c d : UInt8) : (bt (p ++ [c])).set p.length [.int .u8 (d.toNat : Int)] = bt (p ++ [d]) := by
 have hl := bt_len p
 rw [bt_app, List.set_append, if_neg (by omega), hl, Nat.sub_self, bt_app]
 rfl
theorem u64_div {w : Nat} (h : w < 18446744073709551616) : IntKind.u64.wrap (Int.tdiv (w : Int) 128) = ((w / 128 : Nat) : Int) := by
 rw [Int.tdiv_eq_ediv_of_nonneg (by omega), IntKind.wrap_u64]; omega
theorem u64_remp {w : Nat} : Int.tmod (w : Int) 128 = ((w % 128 : Nat) : Int) := by
 rw [Int.tmod_eq_emod_of_nonneg (by omega)]; omega
theorem byte_up (n : Nat) (h : n < 128) : ((n + 128).toUInt8).toNat = n + 128 := by simp; omega
set_option maxHeartbeats 2000000 in
theorem varintM_L {v : Nat} (hv : v < 18446744073709551616) (more : Int) (hm : -1000 ≤ more ∧ more ≤ 1000) (h : Hp) :
  CallL Tryz.prog F_lexiconlaw12_varint [.int .u64 v, .int .i64 more] h fun r h' => ∃ j p c, r = .ret (.slc j 0 (bt (p ++ [c])).length none) ∧ VB p c v ∧ h.u j = false ∧ h' j = some (.row Tb (bt (p ++ [c]))) ∧ Gr h h' := by
 refine K_lexiconlaw12_varint (md := false) ?_
 refine s_blk (id := 0) (fun e' h' => e'.ds = [] ∧ ∃ (u : AV) (p : Str) (w : Nat), w < 128 ∧ p.length ≤ 9 ∧ (p.length = 9 → w ≤ 1) ∧ (∀ x ∈ p, 128 ≤ x.toNat) ∧ v = loN p + 128 ^ p.length * w ∧ AccE Tb h h' u (bt p) ∧ Has e' [(0, .int .u64 (w : Nat)), (1, .int .i64 more), (5, u)]) ?_ ?_
 ·refine s_loop 9 (fun k (s : Hp × AV × Str × Nat) => k ≤ 9 ∧ s.2.2.1.length = k ∧ (∀ x ∈ s.2.2.1, 128 ≤ x.toNat) ∧ v = loN s.2.2.1 + 128 ^ k * s.2.2.2 ∧ AccE Tb h s.1 s.2.1 (bt s.2.2.1)) (fun k s => [(0, .int .u64 (s.2.2.2 : Nat)), (1, .int .i64 more), (5, s.2.1)]) (fun _ s => s.1) (h, .nils, [], v)
   ⟨Nat.zero_le _, rfl, (fun x hx => by cases hx), by simp [loN], AccE.nil _ _⟩ rfl rfl ⟨rfl, rfl, rfl, trivial⟩ (fun k s hI => hI.1) ?_
  rintro k ⟨H, u, p, w⟩ n0 g0 hk ⟨_, hpl, hp, hval, ha⟩
  simp only at hpl hp hval ha
  have hbl := bt_len p
  have hw : w ≤ v := by
   have : 1 ≤ 128 ^ k := Nat.pow_pos (by decide)
   have := Nat.le_mul_of_pos_left w this
   omega
  have hw9 : k = 9 → w ≤ 1 := fun e => by
   subst e
   have h1 : 128 ^ 9 * w ≤ v := by omega
   have : (128 : Nat) ^ 9 = 9223372036854775808 := by decide
   omega
  refine s_le (fun (h1 : (128 : Int) ≤ (w : Nat)) => ?_) (fun (h1 : ((w : Nat) : Int) < 128) => ?_)
  ·refine ⟨by decide, s_ie (u64_remp (w := w)) ?_⟩
   refine s_ie ((u8_nat (w % 128)).trans (by rw [Nat.mod_eq_of_lt (show w % 128 < 256 by omega)])) ?_
   refine s_ie (d := ((w % 128 + 128 : Nat) : Int)) (by rw [IntKind.wrap_u8]; omega) ?_
   refine ⟨_, rfl, fun tb htb => ?_⟩
   have hup := byte_up (w % 128) (by omega)
   refine ⟨bt [(w % 128 + 128).toUInt8], ⟨_, _, Hp.set_same _ _ _, Nat.le_refl _, bt_hi' w⟩, ?_⟩
   refine AccE.app (ha.set htb.1 _) (bt_one _) (bt_flat _) (by rw [hbl, bt_len]; unfold capMax; simp; omega) (by rw [hbl, bt_len]; unfold capMax; simp; omega) fun v' H3 ha3 hf3 hu3 hb3 => ?_
   refine ⟨by decide, s_ie (u64_div (w := w) (by omega)) ?_⟩
   have hk9 : k < 9 := by
    rcases Nat.lt_or_ge k 9 with h | h
    ·exact h
    ·have := hw9 (by omega); omega
   rw [← bt_app] at ha3
   refine ⟨(H3, v', p ++ [(w % 128 + 128).toUInt8], w / 128), hk9, ⟨by omega, by show (p ++ _).length = _; rw [List.length_append, hpl]; rfl, fun x hx => ?_, ?_, ha3⟩, rfl, rfl, rfl, rfl, rfl, trivial⟩
   ·rcases List.mem_append.1 hx with h | h
    ·exact hp x h
    ·rw [List.mem_singleton.1 h, hup]; omega
   ·show v = loN (p ++ [_]) + 128 ^ (k + 1) * (w / 128)
    rw [loN_snoc, hup, hpl, show (w % 128 + 128) % 128 = w % 128 by omega, Nat.pow_succ, Nat.mul_assoc, Nat.add_assoc, ← Nat.mul_add, show w % 128 + 128 * (w / 128) = w by omega]
    exact hval
  ·exact ⟨rfl, u, p, w, by omega, by omega, fun e => hw9 (by omega), hp, by rw [hpl]; exact hval, ha, rfl, rfl, rfl, trivial⟩
 rintro e1 H1 ⟨hd1, u, p, w, hw, hpl, h9, hp, hval, ha, hh1⟩
 obtain ⟨n1, g1, rfl⟩ := hh1.out hd1
 have hbl := bt_len p
 refine s_ie ((u8_nat w).trans (by rw [Nat.mod_eq_of_lt (show w < 256 by omega)])) ?_
 refine ⟨_, rfl, fun tb htb => ?_⟩
 have hwb : (w.toUInt8).toNat = w := by simp; omega
 refine ⟨bt [w.toUInt8], ⟨_, _, Hp.set_same _ _ _, Nat.le_refl _, by rw [bt, List.map_singleton, hwb]; rfl⟩, ?_⟩
 refine AccE.app (ha.set htb.1 _) (bt_one _) (bt_flat _) (by rw [hbl, bt_len]; unfold capMax; simp; omega) (by rw [hbl, bt_len]; unfold capMax; simp; omega) fun v' H3 ha3 hf3 hu3 hb3 => ?_
 rw [← bt_app] at ha3
 obtain ⟨g3, ⟨_, e0⟩ | ⟨j, rfl, hj, hjr⟩⟩ := ha3
 ·have := congrArg List.length e0; rw [bt_len, List.length_append] at this; simp at this
 refine s_blk (id := 2) (fun e' h' => e'.ds = [] ∧ ∃ j p c, VB p c v ∧ h.u j = false ∧ h' j = some (.row Tb (bt (p ++ [c]))) ∧ Gr h h' ∧ Has e' [(5, .slc j 0 (bt (p ++ [c])).length none)]) ?_ ?_
 ·refine s_loop 10 (fun k (s : Hp × Nat × Str × UInt8) => k ≤ s.2.2.1.length ∧ VB s.2.2.1 s.2.2.2 v ∧ h.u s.2.1 = false ∧ s.1 s.2.1 = some (.row Tb (bt (s.2.2.1 ++ [s.2.2.2]))) ∧ Gr h s.1)
   (fun k s => [(1, .int .i64 more), (5, .slc s.2.1 0 (bt (s.2.2.1 ++ [s.2.2.2])).length none), (6, .int .i64 (k : Nat))]) (fun _ s => s.1) (H3, j, p, w.toUInt8) ⟨Nat.zero_le _, ⟨hp, by rw [hwb]; exact hw, hpl, fun e => by rw [hwb]; exact h9 e, by rw [hwb]; exact hval⟩, hj, hjr, g3⟩ rfl rfl ⟨rfl, rfl, rfl, trivial⟩ (fun k s hI => by have := hI.2.1.len; omega) ?_
  rintro k ⟨H, j, p, c⟩ n2 g2' hk ⟨hkp, hvb, hj, hjr, g⟩
  simp only at hkp hvb hj hjr g
  have hl : (bt (p ++ [c])).length = p.length + 1 := by rw [bt_len, List.length_append]; rfl
  refine s_lt (fun (h1 : (k : Int) < more) => ?_) (fun (h1 : more ≤ (k : Int)) => ?_)
  ·refine s_lt (fun (h2 : (((bt (p ++ [c])).length : Nat) : Int) < 10) => ?_) (fun (h2 : (10 : Int) ≤ ((bt (p ++ [c])).length : Nat)) => ?_)
   ·refine s_nat p.length (by (try dsimp only) <;> omega) (by (try dsimp only) <;> omega) ?_
    refine s_nat p.length (by (try dsimp only) <;> omega) (by (try dsimp only) <;> omega) ?_
    refine ⟨p.length, rfl, by (try dsimp only) <;> omega, ⟨_, hjr⟩, ?_⟩
    have hget : (bt (p ++ [c]))[0 + p.length]? = some [.int .u8 (c.toNat : Int)] := by
     rw [Nat.zero_add]; exact bt_get (by simp)
    refine ⟨_, _, _, _, hjr, hget, rfl, ?_⟩
    have hcl := hvb.lo
    refine s_ie (d := ((c.toNat + 128 : Nat) : Int)) (by rw [IntKind.wrap_u8]; omega) ?_
    refine ⟨p.length, rfl, by (try dsimp only) <;> omega, ⟨_, hjr⟩, ?_⟩
    refine ⟨_, _, _, hjr, hget, rfl, rfl, rfl, by show 1 ≤ 1; decide, ?_⟩
    have hup := byte_up c.toNat hcl
    have hset : (bt (p ++ [c])).set (0 + p.length) [.int .u8 ((c.toNat + 128 : Nat) : Int)] = bt (p ++ [(c.toNat + 128).toUInt8]) := by
     rw [Nat.zero_add, ← bt_set_last p c (c.toNat + 128).toUInt8, hup]
    refine ⟨_, rfl, fun tb2 htb2 => ?_⟩
    refine ⟨bt [0], ⟨_, _, Hp.set_same _ _ _, Nat.le_refl _, rfl⟩, ?_⟩
    have ac : AccE Tb h (H.set j (.row Tb ((bt (p ++ [c])).set (0 + p.length) [.int .u8 ((c.toNat + 128 : Nat) : Int)]))) (.slc j 0 (bt (p ++ [c])).length none) (bt (p ++ [(c.toNat + 128).toUInt8])) :=
     ⟨g.set hj _, .inr ⟨j, by rw [bt_len, bt_len, List.length_append, List.length_append]; rfl, hj, by rw [Hp.set_same, hset]⟩⟩
    have hl2 : (bt (p ++ [(c.toNat + 128).toUInt8])).length = p.length + 1 := by rw [bt_len, List.length_append]; rfl
    refine AccE.app (ac.set htb2.1 _) (bt_one _) (bt_flat _) (by rw [hl2, bt_len]; unfold capMax; simp; omega) (by rw [hl2, bt_len]; unfold capMax; simp; omega) fun v2 H5 ha5 hf5 hu5 hb5 => ?_
    rw [← bt_app] at ha5
    obtain ⟨g5, ⟨_, e0⟩ | ⟨j5, rfl, hj5, hjr5⟩⟩ := ha5
    ·have := congrArg List.length e0; rw [bt_len, List.length_append] at this; simp at this
    refine s_nat (k + 1) (by omega) (by omega) ?_
    exact ⟨(H5, j5, p ++ [(c.toNat + 128).toUInt8], 0), by omega, ⟨by show k + 1 ≤ (p ++ _).length; rw [List.length_append]; show k + 1 ≤ p.length + 1; omega, hvb.more (by omega), hj5, hjr5, g5⟩, rfl, rfl, rfl, rfl, rfl, trivial⟩
   ·exact ⟨rfl, j, p, c, hvb, hj, hjr, g, rfl, trivial⟩
  ·exact ⟨rfl, j, p, c, hvb, hj, hjr, g, rfl, trivial⟩
 ·rintro e' h' ⟨hd, j, p, c, hvb, hj, hjr, g, hh⟩
  obtain ⟨n2, g2, rfl⟩ := hh.out hd
  exact ⟨rfl, j, p, c, rfl, hvb, hj, hjr, g⟩
end Go.Proofs.YtgjjbfhamlecoacGreatDoor

namespace Go.Proofs.YtgjjbfhamlecoacGreatDoor
open Go.L
abbrev TErr : TypeId := 26
abbrev tvC (S : Nat) : AV := .ifc 37 (.ptr S 0 0)
abbrev intoT2 : ACode := .seq (.ops A_decode_Into_10) (.seq (.ops A_decode_Into_11) (.seq (.ops A_decode_Into_12) .ret))
abbrev intoT : ACode := .seq (.seq (.ops A_decode_Into_7) (.cond (.t 38) (.seq (.ops A_decode_Into_8) .ret) .skip)) (.seq (.seq (.ops [o_ 40 (.mkfn F_decode_Into_c1 [] [(.t 6), (.t 7), (.t 8)])]) (.dfr (.t 40) [])) (.seq (.ops A_decode_Into_9) intoT2))
structure DecH (S MD Tt O E A M11 clk : Nat) (z l : AV) (es : MapL) (full : Str) (os rs nm nv jv : AV) (r0 : Nat) (h : Hp) : Prop where
 s : h S = some (.row TSet [SetC z l (.map MD)])
 md : h MD = some (.map es clk)
 sk : SKeys es
 sg : sget es full = some (.ptr Tt 0 0)
 t : h Tt = some (.row TTab [TabC (.str full) os rs nm nv jv])
 o : h O = some (.row TM [MsgC [] .nils .nils])
 e : h E = some (.row TErr [eC 0])
 a : h A = some (.row Tint [eC 0])
 m : h M11 = some (.row TM [MsgC full .nils .nils])
 r : h r0 = some (.row TM [MsgC [] .nils .nils])
 ro : r0 ≠ O
section
variable {h : Hp} {S MD Tt O E A M11 clk : Nat} {z l : AV} {es : MapL} {full : Str} {os rs nm nv jv : AV} {r0 : Nat}
theorem DecH.gr (k : DecH S MD Tt O E A M11 clk z l es full os rs nm nv jv r0 h) {h' : Hp} (g : Gr h h') : DecH S MD Tt O E A M11 clk z l es full os rs nm nv jv r0 h' :=
 ⟨g.blk k.s, g.blk k.md, k.sk, k.sg, g.blk k.t, g.blk k.o, g.blk k.e, g.blk k.a, g.blk k.m, g.blk k.r, k.ro⟩
theorem DecH.OE (k : DecH S MD Tt O E A M11 clk z l es full os rs nm nv jv r0 h) : O ≠ E := row_ne k.o k.e (by decide)
theorem DecH.OA (k : DecH S MD Tt O E A M11 clk z l es full os rs nm nv jv r0 h) : O ≠ A := row_ne k.o k.a (by decide)
theorem DecH.EA (k : DecH S MD Tt O E A M11 clk z l es full os rs nm nv jv r0 h) : E ≠ A := row_ne k.e k.a (by decide)
theorem DecH.rE (k : DecH S MD Tt O E A M11 clk z l es full os rs nm nv jv r0 h) : r0 ≠ E := row_ne k.r k.e (by decide)
theorem DecH.rA (k : DecH S MD Tt O E A M11 clk z l es full os rs nm nv jv r0 h) : r0 ≠ A := row_ne k.r k.a (by decide)
theorem DecH.tab (k : DecH S MD Tt O E A M11 clk z l es full os rs nm nv jv r0 h) : ∀ h', Gr h h' → CallL Tryz.prog F_table_Set_Table [.ptr S 0 0, .str full] h' fun r h'' => r = .ret (.tup [.ptr Tt 0 0, .int .i64 0]) ∧ h'' = h' :=
 fun _ g => TableHit_L (g.blk k.s) (g.blk k.md) k.sk k.sg
theorem into_res {e : Env} {h : Hp} {O E A : Nat} {m : List AV} {n p : Int} {N : List AV → Prop} (hO : h O = some (.row TM [m])) (hm : m.length = 3) (hE : h E = some (.row TErr [eC n])) (hA : h A = some (.row Tint [eC p])) (h6 : e.t 6 = .ptr O 0 0) (h7 : e.t 7 = .ptr E 0 0) (h8 : e.t 8 = .ptr A 0 0)
  (hN : N [.agg m, .int .i64 n, .int .i64 p]) : resL e h R_decode_Into N := by
 have hv : ∀ x, ev e (.t x) = e.t x := fun _ => rfl
 have e1 : (m.drop 0).take 3 = m := by rw [List.drop_zero, ← hm, List.take_length]
 show LN (.lda 3 (.t 6)) e h _
 simp only [LN, hv, h6]
 refine ⟨_, _, _, hO, rfl, by omega, ?_⟩
 show LN (.ld1 (.t 7)) e h _
 simp only [LN, hv, h7]
 refine ⟨_, _, _, _, hE, rfl, rfl, ?_⟩
 show LN (.ld1 (.t 8)) e h _
 simp only [LN, hv, h8]
 refine ⟨_, _, _, _, hA, rfl, rfl, ?_⟩
 show N _
 rw [e1]; exact hN
abbrev dfrC (O E A : Nat) : ADef := .call (.func F_decode_Into_c1) [.ptr O 0 0, .ptr E 0 0, .ptr A 0 0] []
theorem leaves_ret {Q : Res → Hp → Prop} {e : Env} {h : Hp} {O E A : Nat} {m : List AV} {c p : Int} (hO : h O = some (.row TM [m])) (hm : m.length = 3) (hE : h E = some (.row TErr [eC c])) (hA : h A = some (.row Tint [eC p])) (h6 : e.t 6 = .ptr O 0 0) (h7 : e.t 7 = .ptr E 0 0) (h8 : e.t 8 = .ptr A 0 0)
  (hQ : Q (.ret (.tup [.agg m, .int .i64 c, .int .i64 p])) h) : LeavesL Tryz.prog R_decode_Into Q [dfrC O E A] .ret e h := by
 refine ⟨Has_Into1, (IntoD_ret _ _ _ h).mono ?_⟩
 rintro r u h' ⟨rfl, rfl, rfl⟩
 exact into_res hO hm hE hA h6 h7 h8 hQ
end
end Go.Proofs.YtgjjbfhamlecoacGreatDoor

namespace Go.Proofs.YtgjjbfhamlecoacGreatDoor
open Go.L
abbrev fullM : Str := [77]
def rowsM : List (List AV) := [[.int .i32 1, .str [97], .str [97], .int .u8 1, .int .u8 5, .int .u8 0, .bool false, .int .i64 0, .str []], rowR,
 [.int .i32 4, .str [109], .str [109], .int .u8 1, .int .u8 11, .int .u8 0, .bool false, .int .i64 0, .str [77]], [.int .i32 5, .str [120], .str [120], .int .u8 4, .int .u8 5, .int .u8 9, .bool false, .int .i64 0, .str []],
 [.int .i32 6, .str [112], .str [112], .int .u8 1, .int .u8 5, .int .u8 0, .bool false, .int .i64 1, .str []], [.int .i32 7, .str [113], .str [113], .int .u8 1, .int .u8 11, .int .u8 0, .bool false, .int .i64 1, .str [77]]]
def esM : MapL := [(.int .i32 1, .int .i64 0, 0), (.int .i32 2, .int .i64 1, 1), (.int .i32 4, .int .i64 2, 2), (.int .i32 5, .int .i64 3, 3), (.int .i32 6, .int .i64 4, 4), (.int .i32 7, .int .i64 5, 5)]
theorem esM_like : KeysLike (.int .i32 2) esM := fun x hx => by
 simp only [esM, List.mem_cons, List.not_mem_nil, or_false] at hx
 rcases hx with rfl | rfl | rfl | rfl | rfl | rfl <;> rfl
theorem NewRd_bt {i T : Nat} {c : Option Nat} {es : List (List AV)} {l : Str} {h : Hp} (hi : h i = some (.row T es)) (hs : es = bt l) (hl : l.length ≤ 1000000000000) : CallL Tryz.prog F_wire_NewReader [.slc i 0 (bt l).length c] h (NewRd l h) := by
 have e := bt_len l
 rw [e]
 exact NewRd_slc i 0 T c es l h hi (by rw [hs, e]; omega) (by rw [hs, List.drop_zero, ← e, List.take_length]) hl
def DecMQ (r0 : Nat) (xs : List Nat) (r : Res) (h' : Hp) : Prop := h' r0 = some (.row TM [MsgC [] .nils .nils]) ∧
 ∃ fv, r = .ret (.tup [.agg (MsgC fullM fv .nils), .int .i64 0, .int .i64 0]) ∧ ((xs = [] ∧ fv = .nils) ∨ (xs ≠ [] ∧ ∃ fb lb, fv = .slc fb 0 1 none ∧ h' fb = some (.row TFV [fvC (.slc lb 0 xs.length none)]) ∧ h' lb = some (.row TV (valsC xs))))
set_option maxHeartbeats 2000000 in
theorem intoTM_L {h : Hp} {S MD Tt O E A M11 clk NM c RW r0 bb : Nat} {z l os nv jv : AV} {es : MapL} {rs : List Rn} (k : DecH S MD Tt O E A M11 clk z l es fullM os (.slc RW 0 6 none) (.map NM) nv jv r0 h) (hRW : h RW = some (.row TRow rowsM)) (hNM : h NM = some (.map esM c))
  (hbb : h bb = some (.row Tb (bt (recB rs)))) (hb16 : (recB rs).length ≤ 16777216) (hok : ∀ p ∈ rs, p.ok) (hxs : (recV rs).length ≤ 100000000) (e : Env) (hd : e.ds = [])
  (hh : Has e [(0, tvC S), (2, .slc bb 0 (bt (recB rs)).length none), (6, .ptr O 0 0), (7, .ptr E 0 0), (8, .ptr A 0 0), (11, .ptr M11 0 0)]) : LCode Tryz.prog false intoT (EndQD Tryz.prog R_decode_Into (DecMQ r0 (recV rs))) e h := by
 obtain ⟨n0, g0, rfl⟩ := hh.out hd
 have hbl := bt_len (recB rs)
 refine s_lt (fun (h1 : (16777216 : Int) < ((bt (recB rs)).length : Nat)) => by omega) (fun _ => ?_)
 refine (ways_L h).mono ?_
 rintro r h1' ⟨W, rfl, hW, rfl⟩
 refine ⟨_, rfl, ?_⟩
 refine ⟨rfl, rfl, fun D hDf => ?_⟩
 have g1 := ((Gr.refl h).set hW (.row TWay waysR))
 have g2 := g1.set (g1.new hDf.1) (.row TD [[tvC S, .slc bb 0 (bt (recB rs)).length none, .slc W 0 3 (some 3)]])
 have k2 := k.gr g2
 have hD : ((h.set W (.row TWay waysR)).set D (.row TD [[tvC S, .slc bb 0 (bt (recB rs)).length none, .slc W 0 3 (some 3)]])) D = some (.row TD [[tvC S, .slc bb 0 (bt (recB rs)).length none, .slc W 0 3 (some 3)]]) := Hp.set_same _ _ _
 have hWD : W ≠ D := ne_of_u (by rw [Hp.set_u]; simp) hDf.1
 have hW2 : ((h.set W (.row TWay waysR)).set D (.row TD [[tvC S, .slc bb 0 (bt (recB rs)).length none, .slc W 0 3 (some 3)]])) W = some (.row TWay waysR) := (Hp.set_ne hWD).trans (Hp.set_same _ _ _)
 refine ⟨_, _, _, k2.m, rfl, by show 3 ≤ 3; decide, ?_⟩
 refine (node0_L hD k2.tab).mono ?_
 rintro r h3 ⟨N, FM, rfl, hN, hFM, gN, kN, kFM⟩
 refine (NewRd_bt (gN.blk (g2.blk hbb)) rfl (by omega)).mono ?_
 rintro r h4 ⟨R, cv, rfl, hR, g4, kR, hcv⟩
 have gg := gN.trans g4
 have hFind : ∀ H, Gr ((h.set W (.row TWay waysR)).set D (.row TD [[tvC S, .slc bb 0 (bt (recB rs)).length none, .slc W 0 3 (some 3)]])) H → CallL Tryz.prog F_table_Table_Find [.ptr Tt 0 0, .int .i32 2] H fun r h' => r = .ret (.tup [.agg rowR, .bool true]) ∧ Gr H h' :=
  fun H g => Find1_L (g.blk k2.t) (g.blk (g2.blk hRW)) (g.blk (g2.blk hNM)) esM_like rfl (i := 1) rfl (by decide) rfl rfl
 refine (records1_L hD hW2 hFind hok hxs ⟨gg, g4.blk kN, kR, hN, hFM, gN.new hR, (fun P rw e => by cases e), fun _ => ⟨g4.blk kFM, rfl⟩, fun F v e => by cases e⟩).mono ?_
 rintro r h5 ⟨rfl, fs, ku, hfs⟩
 have k5 := k2.gr ku.g
 have fin : ∀ (h6 : Hp) (fv : AV), DecH S MD Tt O E A M11 clk z l es fullM os (.slc RW 0 6 none) (.map NM) nv jv r0 h6 → ((recV rs = [] ∧ fv = .nils) ∨ (recV rs ≠ [] ∧ ∃ fb lb, fv = .slc fb 0 1 none ∧ h6 fb = some (.row TFV [fvC (.slc lb 0 (recV rs).length none)]) ∧ h6 lb = some (.row TV (valsC (recV rs))))) →
   ((((h6.set O (.row TM [MsgC fullM fv .nils])).set E (.row TErr [eC 0])).set A (.row Tint [eC 0])) O = some (.row TM [MsgC fullM fv .nils]) ∧ (((h6.set O (.row TM [MsgC fullM fv .nils])).set E (.row TErr [eC 0])).set A (.row Tint [eC 0])) E = some (.row TErr [eC 0]) ∧
   (((h6.set O (.row TM [MsgC fullM fv .nils])).set E (.row TErr [eC 0])).set A (.row Tint [eC 0])) A = some (.row Tint [eC 0]) ∧ DecMQ r0 (recV rs) (.ret (.tup [.agg (MsgC fullM fv .nils), .int .i64 0, .int .i64 0])) (((h6.set O (.row TM [MsgC fullM fv .nils])).set E (.row TErr [eC 0])).set A (.row Tint [eC 0]))) := by
  intro h6 fv k6 hfv
  refine ⟨(Hp.set_ne k.OA).trans ((Hp.set_ne k.OE).trans (Hp.set_same _ _ _)), (Hp.set_ne k.EA).trans (Hp.set_same _ _ _), Hp.set_same _ _ _, (Hp.set_ne k.rA).trans ((Hp.set_ne k.rE).trans ((Hp.set_ne k.ro).trans k6.r)), fv, rfl, ?_⟩
  refine hfv.imp (fun h => h) ?_
  rintro ⟨h1, fb, lb, rfl, q1, q2⟩
  exact ⟨h1, fb, lb, rfl, (Hp.set_ne (row_ne q1 k6.a (by decide))).trans ((Hp.set_ne (row_ne q1 k6.e (by decide))).trans ((Hp.set_ne (row_ne q1 k6.o (by decide))).trans q1)), (Hp.set_ne (row_ne q2 k6.a (by decide))).trans ((Hp.set_ne (row_ne q2 k6.e (by decide))).trans ((Hp.set_ne (row_ne q2 k6.o (by decide))).trans q2))⟩
 by_cases hx : recV rs = []
 ·obtain rfl := hfs hx
  refine (msg0_L ku.nd k5.t (ku.f0 rfl).1 ⟨rfl, rfl, rfl⟩).mono ?_
  rintro r h6 ⟨rfl, g6⟩
  have k6 := k5.gr g6
  obtain ⟨q1, q2, q3, q4⟩ := fin h6 .nils k6 (.inl ⟨hx, rfl⟩)
  refine ⟨_, _, _, k6.o, rfl, rfl, rfl, rfl, by show 3 ≤ 3; decide, ?_⟩
  refine ⟨_, _, _, (Hp.set_ne k.OE.symm).trans k6.e, rfl, rfl, rfl, rfl, by show 1 ≤ 1; decide, ?_⟩
  refine ⟨_, _, _, (Hp.set_ne k.EA.symm).trans ((Hp.set_ne k.OA.symm).trans k6.a), rfl, rfl, rfl, rfl, by show 1 ≤ 1; decide, ?_⟩
  exact leaves_ret (O := O) (E := E) (A := A) (m := MsgC fullM .nils .nils) (c := 0) (p := 0) q1 rfl q2 q3 rfl rfl rfl q4
 ·obtain ⟨F, v, rfl⟩ : ∃ F v, fs = some (F, v) := by
   cases fs with
   | none => exact absurd (ku.f0 rfl).2 hx
   | some q => exact ⟨q.1, q.2, rfl⟩
  obtain ⟨q1, ⟨AM, q2⟩, q3, q4, q5⟩ := ku.f1 F v rfl
  have hil := items_len (recV rs)
  obtain ⟨j, rfl, hj⟩ : ∃ j, v = .slc j 0 (recV rs).length none ∧ h5 j = some (.row TI (items (recV rs))) := by
   rcases q5 with ⟨_, e0⟩ | ⟨j, e1, _, e3⟩
   ·rw [e0] at hil; exact absurd (List.length_eq_zero_iff.1 hil.symm) hx
   ·exact ⟨j, by rw [e1, hil], e3⟩
  refine (msg1_L ku.nd k5.t q1 q2 hj hx hxs).mono ?_
  rintro r h6 ⟨g6, fv, rfl, fb, lb, rfl, _, f2, f3, _⟩
  have k6 := k5.gr g6
  obtain ⟨q1, q2, q3, q4⟩ := fin h6 (.slc fb 0 1 none) k6 (.inr ⟨hx, fb, lb, rfl, f2, f3⟩)
  refine ⟨_, _, _, k6.o, rfl, rfl, rfl, rfl, by show 3 ≤ 3; decide, ?_⟩
  refine ⟨_, _, _, (Hp.set_ne k.OE.symm).trans k6.e, rfl, rfl, rfl, rfl, by show 1 ≤ 1; decide, ?_⟩
  refine ⟨_, _, _, (Hp.set_ne k.EA.symm).trans ((Hp.set_ne k.OA.symm).trans k6.a), rfl, rfl, rfl, rfl, by show 1 ≤ 1; decide, ?_⟩
  exact leaves_ret (O := O) (E := E) (A := A) (m := MsgC fullM (.slc fb 0 1 none) .nils) (c := 0) (p := 0) q1 rfl q2 q3 rfl rfl rfl q4
end Go.Proofs.YtgjjbfhamlecoacGreatDoor

namespace Go.Proofs.YtgjjbfhamlecoacGreatDoor
open Go.L
structure GrdM (s0 md0 t0 rw0 nm0 l0 os0 nv0 jv0 : Nat) (X3 X4 X5 : Hp) : Prop where
 tab : ∀ ρ H, Img ρ X3 H → CallL Tryz.prog F_table_Set_Table (mps ρ [.ptr s0 0 0, .str fullM]) H (FrQ ρ X3 X4 (.tup [.ptr t0 0 0, .int .i64 0]) H)
 norm : ∀ ρ H, Img ρ X4 H → CallL Tryz.prog 32 (mps ρ [tvC s0, .agg (MsgC fullM .nils .nils)]) H (FrQ ρ X4 X5 (.tup [.agg (MsgC fullM .nils .nils), .int .i64 0]) H)
 u3 : X3.u s0 = true
 u4 : X4.u s0 = true
 s : X5 s0 = some (.row TSet [SetC (.int .u32 0) (.ptr l0 0 0) (.map md0)])
 md : X5 md0 = some (.map [(.str fullM, .ptr t0 0 0, 0)] 1)
 t : X5 t0 = some (.row TTab [TabC (.str fullM) (.slc os0 0 1 none) (.slc rw0 0 6 none) (.map nm0) (.map nv0) (.map jv0)])
 rw : X5 rw0 = some (.row TRow rowsM)
 nm : X5 nm0 = some (.map esM 6)
section
variable {s0 md0 t0 rw0 nm0 l0 os0 nv0 jv0 : Nat} {X3 X4 X5 : Hp}
set_option maxHeartbeats 1000000 in
theorem IntoM_L (k : GrdM s0 md0 t0 rw0 nm0 l0 os0 nv0 jv0 X3 X4 X5) {ρ : Nat → Nat} {H : Hp} {r0 bb : Nat} {rs : List Rn} (hI : Img ρ X3 H) (hr : H r0 = some (.row TM [MsgC [] .nils .nils])) (or : Out ρ X3 H r0) (hb : H bb = some (.row Tb (bt (recB rs)))) (ob : Out ρ X3 H bb)
  (hb16 : (recB rs).length ≤ 16777216) (hok : ∀ p ∈ rs, p.ok) (hxs : (recV rs).length ≤ 100000000) :
  CallL Tryz.prog F_decode_Into [tvC (ρ s0), .agg (MsgC fullM .nils .nils), .slc bb 0 (bt (recB rs)).length none] H (DecMQ r0 (recV rs)) := by
 refine CallL.ofD (md := false) Tryz.func18 C_decode_Into (by rw [Tryz.ntmps18]; exact (show 3 ≤ 56 by decide)) (by
  rw [Tryz.ntmps18]
  show LCode Tryz.prog false (.seq (.ops A_decode_Into_0) (.seq (.seq (.ops A_decode_Into_1) (.seq (.ops A_decode_Into_2) (.cond (.t 23) (.seq (.ops A_decode_Into_3) .ret) .skip))) (.seq (.ops A_decode_Into_4) (.seq (.seq (.ops A_decode_Into_5) (.cond (.t 33) (.seq (.ops A_decode_Into_6) .ret) .skip)) intoT)))) _ _ _
  refine s_then4 (fun e' h' => e'.ds = [] ∧ ∃ MD Tt O E A M11 RW NM os nv jv l es, DecH (ρ s0) MD Tt O E A M11 1 (.int .u32 0) l es fullM os (.slc RW 0 6 none) (.map NM) nv jv r0 h' ∧ h' RW = some (.row TRow rowsM) ∧ h' NM = some (.map esM 6) ∧ h' bb = some (.row Tb (bt (recB rs))) ∧
   Has e' [(0, tvC (ρ s0)), (2, .slc bb 0 (bt (recB rs)).length none), (6, .ptr O 0 0), (7, .ptr E 0 0), (8, .ptr A 0 0), (11, .ptr M11 0 0)]) ?_ ?_
  ·refine ⟨rfl, rfl, fun m0 hm0 => ?_⟩
   refine ⟨rfl, rfl, fun o0 ho0 => ?_⟩
   refine ⟨rfl, rfl, fun e0 he0 => ?_⟩
   refine ⟨rfl, rfl, fun a0 ha0 => ?_⟩
   have g1 := (Gr.refl H).set hm0.1 (.row TM [MsgC fullM .nils .nils])
   have g2 := g1.set (g1.new ho0.1) (.row TM [MsgC [] .nils .nils])
   have g3 := g2.set (g2.new he0.1) (.row TErr [eC 0])
   have g4 := g3.set (g3.new ha0.1) (.row Tint [eC 0])
   have um := Hp.used (Hp.set_same H m0 (.row TM [MsgC fullM .nils .nils]))
   have hmo : m0 ≠ o0 := ne_of_u um ho0.1
   have hme : m0 ≠ e0 := ne_of_u (by simp) he0.1
   have hma : m0 ≠ a0 := ne_of_u (by simp) ha0.1
   have uo := Hp.used (Hp.set_same (H.set m0 (.row TM [MsgC fullM .nils .nils])) o0 (.row TM [MsgC [] .nils .nils]))
   have hoe : o0 ≠ e0 := ne_of_u uo he0.1
   have hoa : o0 ≠ a0 := ne_of_u (by simp) ha0.1
   have ue := Hp.used (Hp.set_same ((H.set m0 (.row TM [MsgC fullM .nils .nils])).set o0 (.row TM [MsgC [] .nils .nils])) e0 (.row TErr [eC 0]))
   have hea : e0 ≠ a0 := ne_of_u ue ha0.1
   generalize hH4 : (((H.set m0 (.row TM [MsgC fullM .nils .nils])).set o0 (.row TM [MsgC [] .nils .nils])).set e0 (.row TErr [eC 0])).set a0 (.row Tint [eC 0]) = H4 at g4
   have km : H4 m0 = some (.row TM [MsgC fullM .nils .nils]) := by rw [← hH4]; exact (Hp.set_ne hma).trans ((Hp.set_ne hme).trans ((Hp.set_ne hmo).trans (Hp.set_same _ _ _)))
   have ko : H4 o0 = some (.row TM [MsgC [] .nils .nils]) := by rw [← hH4]; exact (Hp.set_ne hoa).trans ((Hp.set_ne hoe).trans (Hp.set_same _ _ _))
   have ke : H4 e0 = some (.row TErr [eC 0]) := by rw [← hH4]; exact (Hp.set_ne hea).trans (Hp.set_same _ _ _)
   have ka : H4 a0 = some (.row Tint [eC 0]) := by rw [← hH4]; exact Hp.set_same _ _ _
   have I4 := hI.gr g4
   have Om : Out ρ X3 H4 m0 := Out.new hI hm0.1 (Hp.used km)
   have Oo : Out ρ X3 H4 o0 := Out.new hI (g1.new ho0.1) (Hp.used ko)
   have Oe : Out ρ X3 H4 e0 := Out.new hI (g2.new he0.1) (Hp.used ke)
   have Oa : Out ρ X3 H4 a0 := Out.new hI (g3.new ha0.1) (Hp.used ka)
   have Or := or.gr g4
   have Ob := ob.gr g4
   refine ⟨_, _, _, _, ((congrArg (fun X : Hp => X.m m0) hH4).trans km), rfl, rfl, ?_⟩
   refine callL_at hH4 ?_
   refine (k.tab ρ H4 I4).mono ?_
   rintro r H5 ⟨ρ1, e1, rfl, I5, n1, f1, u1⟩
   obtain ⟨m5, Om5⟩ := Om.step e1 n1 f1 u1
   obtain ⟨o5, Oo5⟩ := Oo.step e1 n1 f1 u1
   obtain ⟨e5, Oe5⟩ := Oe.step e1 n1 f1 u1
   obtain ⟨a5, Oa5⟩ := Oa.step e1 n1 f1 u1
   obtain ⟨r5, Or5⟩ := Or.step e1 n1 f1 u1
   obtain ⟨b5, Ob5⟩ := Ob.step e1 n1 f1 u1
   refine ⟨_, rfl, _, rfl, ?_⟩
   refine s_ne (fun h1 => absurd rfl h1) (fun _ => ?_)
   refine ⟨_, _, _, m5.trans km, rfl, by show 3 ≤ 3; decide, ?_⟩
   have hN := k.norm ρ1 H5 I5
   have hs1 : ρ1 s0 = ρ s0 := e1 s0 k.u3
   have hargs : mps ρ1 [tvC s0, .agg (MsgC fullM .nils .nils)] = [tvC (ρ s0), .agg (MsgC fullM .nils .nils)] := by rw [← hs1]; rfl
   rw [hargs] at hN
   refine hN.mono ?_
   rintro r H6 ⟨ρ2, e2, rfl, I6, n2, f2, u2⟩
   obtain ⟨o6, _⟩ := Oo5.step e2 n2 f2 u2
   obtain ⟨e6, _⟩ := Oe5.step e2 n2 f2 u2
   obtain ⟨a6, _⟩ := Oa5.step e2 n2 f2 u2
   obtain ⟨r6, _⟩ := Or5.step e2 n2 f2 u2
   obtain ⟨b6, _⟩ := Ob5.step e2 n2 f2 u2
   refine ⟨_, rfl, _, rfl, ?_⟩
   refine ⟨rfl, rfl, fun M11 hM => ?_⟩
   refine ⟨_, _, _, Hp.set_same _ _ _, rfl, rfl, rfl, rfl, by show 3 ≤ 3; decide, ?_⟩
   refine s_ne (fun h1 => absurd rfl h1) (fun _ => ?_)
   have gM := ((Gr.refl H6).set hM.1 (.row TM [MsgC [] .nils .nils])).set hM.1 (.row TM [MsgC fullM .nils .nils])
   have hs2 : ρ2 s0 = ρ s0 := (e2 s0 k.u4).trans hs1
   have ks := I6.blk s0 _ k.s
   rw [hs2] at ks
   refine ⟨rfl, ρ2 md0, ρ2 t0, o0, e0, a0, M11, ρ2 rw0, ρ2 nm0, .slc (ρ2 os0) 0 1 none, .map (ρ2 nv0), .map (ρ2 jv0), .ptr (ρ2 l0) 0 0, [(.str fullM, .ptr (ρ2 t0) 0 0, 0)],
    ⟨gM.blk ks, gM.blk (I6.blk md0 _ k.md), fun x hx => ⟨fullM, by rw [List.mem_singleton.1 hx]⟩, rfl, gM.blk (I6.blk t0 _ k.t), gM.blk (o6.trans (o5.trans ko)), gM.blk (e6.trans (e5.trans ke)), gM.blk (a6.trans (a5.trans ka)), Hp.set_same _ _ _, gM.blk (r6.trans (r5.trans (g4.blk hr))), ?_⟩,
    gM.blk (I6.blk rw0 _ k.rw), gM.blk (I6.blk nm0 _ k.nm), gM.blk (b6.trans (b5.trans (g4.blk hb))), rfl, rfl, rfl, rfl, rfl, rfl, trivial⟩
   exact ne_of_u (g1.u _ (Hp.used hr)) ho0.1
  ·rintro e' h' ⟨hd, MD, Tt, O, E, A, M11, RW, NM, os, nv, jv, l, es, kd, q1, q2, q3, hh⟩
   exact intoTM_L kd q1 q2 q3 hb16 hok hxs e' hd hh)
theorem DecodeM_L (k : GrdM s0 md0 t0 rw0 nm0 l0 os0 nv0 jv0 X3 X4 X5) {ρ : Nat → Nat} {H : Hp} {bb : Nat} {rs : List Rn} (hI : Img ρ X3 H) (hb : H bb = some (.row Tb (bt (recB rs)))) (ob : Out ρ X3 H bb) (hb16 : (recB rs).length ≤ 16777216) (hok : ∀ p ∈ rs, p.ok) (hxs : (recV rs).length ≤ 100000000) :
  CallL Tryz.prog F_decode_Decode [tvC (ρ s0), .str fullM, .slc bb 0 (bt (recB rs)).length none] H fun r h' =>
   ∃ fv, r = .ret (.tup [.agg (MsgC fullM fv .nils), .int .i64 0, .int .i64 0]) ∧ ((recV rs = [] ∧ fv = .nils) ∨ (recV rs ≠ [] ∧ ∃ fb lb, fv = .slc fb 0 1 none ∧ h' fb = some (.row TFV [fvC (.slc lb 0 (recV rs).length none)]) ∧ h' lb = some (.row TV (valsC (recV rs))))) := by
 refine K_decode_Decode (md := false) ?_
 refine ⟨rfl, rfl, fun r0 hr0 => ?_⟩
 have g1 := (Gr.refl H).set hr0.1 (.row TM [MsgC [] .nils .nils])
 refine ⟨_, rfl, ?_⟩
 refine (IntoM_L k (hI.gr g1) (Hp.set_same _ _ _) (Out.new hI hr0.1 (Hp.used (Hp.set_same _ _ _))) (g1.blk hb) (ob.gr g1) hb16 hok hxs).mono ?_
 rintro r h' ⟨hr, fv, rfl, hfv⟩
 refine ⟨_, rfl, _, rfl, _, rfl, ?_⟩
 rcases hfv with ⟨hx, rfl⟩ | ⟨hx, fb, lb, rfl, q1, q2⟩
 ·refine ⟨_, _, _, hr, rfl, rfl, rfl, rfl, by show 3 ≤ 3; decide, ?_⟩
  refine ⟨rfl, ?_⟩
  refine ⟨_, _, _, Hp.set_same _ _ _, rfl, by show 3 ≤ 3; decide, ?_⟩
  exact ⟨_, rfl, .inl ⟨hx, rfl⟩⟩
 ·refine ⟨_, _, _, hr, rfl, rfl, rfl, rfl, by show 3 ≤ 3; decide, ?_⟩
  refine ⟨rfl, ?_⟩
  refine ⟨_, _, _, Hp.set_same _ _ _, rfl, by show 3 ≤ 3; decide, ?_⟩
  exact ⟨_, rfl, .inr ⟨hx, fb, lb, rfl, (Hp.set_ne (row_ne q1 hr (by decide))).trans q1, (Hp.set_ne (row_ne q2 hr (by decide))).trans q2⟩⟩
end
end Go.Proofs.YtgjjbfhamlecoacGreatDoor

namespace Go.Proofs.YtgjjbfhamlecoacGreatDoor
open Go.L
def ux (l : List Nat) : List (List AV) := l.map fun v : Nat => [.int .u64 (v : Nat)]
def cx (l : List Int) : List (List AV) := l.map fun n : Int => [.int .i64 n]
theorem ux_len (l : List Nat) : (ux l).length = l.length := List.length_map ..
theorem cx_len (l : List Int) : (cx l).length = l.length := List.length_map ..
structure Bld (Hb : Hp) (ls : List Nat) (i : Nat) (rs : List Rn) (u : AV) (H : Hp) : Prop where
 ac : AccE Tb Hb H u (bt (recB rs))
 ok : ∀ p ∈ rs, p.ok
 val : recV rs = ls.take i
 len : (recB rs).length ≤ 21 * i
 il : i ≤ ls.length
theorem Bld.keep {Hb : Hp} {ls : List Nat} {i : Nat} {rs : List Rn} {u : AV} {H H' : Hp} (k : Bld Hb ls i rs u H) (g : Gr H H') : Bld Hb ls i rs u H' := ⟨k.ac.keep g, k.ok, k.val, k.len, k.il⟩
theorem Bld.add {Hb : Hp} {ls : List Nat} {i q : Nat} {rs : List Rn} {u u' : AV} {H H' : Hp} (k : Bld Hb ls i rs u H) {p : Rn} (hp : p.ok) (hv : p.vals = (ls.drop i).take q) (hb : p.bytes.length ≤ 21 * q) (hq : i + q ≤ ls.length) (ac : AccE Tb Hb H' u' (bt (recB rs ++ p.bytes))) :
  Bld Hb ls (i + q) (rs ++ [p]) u' H' := by
 refine ⟨by rw [recB_app, recB_one]; exact ac, fun x hx => ?_, ?_, ?_, hq⟩
 ·rcases List.mem_append.1 hx with h | h
  ·exact k.ok x h
  ·rw [List.mem_singleton.1 h]; exact hp
 ·rw [recV_app, recV_one, k.val, hv, List.take_add]
 ·rw [recB_app, recB_one, List.length_append]
  have := k.len
  omega
theorem tmod_b (x : Int) (m : Int) (hm : 0 < m) : -m < Int.tmod x m ∧ Int.tmod x m < m := by
 have h1 := Int.tmod_lt_of_pos x hm
 have h2 : -m < Int.tmod x m := by
  have := Int.lt_tmod_of_pos x hm
  exact this
 exact ⟨h2, h1⟩
section
variable {Hb H : Hp} {ls : List Nat} {cs : List Int} {i st : Nat} {rs : List Rn} {u sv : AV}
abbrev EL (ls : List Nat) (cs : List Int) (sv u : AV) (i st : Nat) : List (Nat × AV) := [(0, .isl 0 (ux ls)), (1, .isl 0 (cx cs)), (8, sv), (9, u), (10, .int .i64 (i : Nat)), (11, .int .i64 (st : Nat))]
theorem pick_n (hst : st ≤ 200000) (hcs : cs.length ≤ 1000000000000000) (hsv : notTup sv = true) (e : Env) (hd : e.ds = []) (hh : Has e (EL ls cs sv u i st)) (Q : Xit → Env → Hp → Prop) :
  LCode Tryz.prog false (.seq (.ops [o_ 12 (.mov (i_ 1))]) (.seq (.seq (.ops A_lexiconlaw12_DecodeRuns_6) (.cond (.t 52) (.ops A_lexiconlaw12_DecodeRuns_7) .skip)) (.ops A_lexiconlaw12_DecodeRuns_8)))
   (toPost (fun e' h' => h' = H ∧ e'.ds = [] ∧ ∃ n : Int, -50 < n ∧ n < 50 ∧ Has e' [(0, .isl 0 (ux ls)), (1, .isl 0 (cx cs)), (8, sv), (9, u), (10, .int .i64 (i : Nat)), (11, .int .i64 ((st + 1 : Nat) : Int)), (12, .int .i64 n)]) Q) e H := by
 obtain ⟨n0, g0, rfl⟩ := hh.out hd
 have hcl := cx_len cs
 refine s_lt (fun (h1 : (st : Int) < ((cx cs).length : Nat)) => ?_) (fun (h1 : (((cx cs).length : Nat) : Int) ≤ st) => ?_)
 ·obtain ⟨x, hx⟩ := get_lt (l := cs) (k := st) (by omega)
  refine s_at (f := fun n : Int => [AV.int .i64 n]) st x rfl hx rfl (by decide) ?_
  refine ⟨_, rfl, ?_⟩
  refine ⟨by decide, ?_⟩
  intro m hm
  have hb := tmod_b x 50 (by decide)
  have hm2 : m = Int.tmod x 50 := hm
  refine s_nat (st + 1) (by omega) (by omega) ?_
  exact ⟨rfl, rfl, m, by omega, by omega, rfl, rfl, rfl, rfl, rfl, rfl, rfl, trivial⟩
 ·refine s_nat (st + 1) (by omega) (by omega) ?_
  exact ⟨rfl, rfl, 1, by decide, by decide, rfl, rfl, rfl, rfl, rfl, rfl, rfl, trivial⟩
abbrev EN (ls : List Nat) (cs : List Int) (sv u : AV) (i st : Nat) (n : Int) : List (Nat × AV) := [(0, .isl 0 (ux ls)), (1, .isl 0 (cx cs)), (8, sv), (9, u), (10, .int .i64 (i : Nat)), (11, .int .i64 (st : Nat)), (12, .int .i64 n)]
abbrev BP (Hb : Hp) (ls : List Nat) (cs : List Int) (sv : AV) (i st : Nat) (e' : Env) (h' : Hp) : Prop := e'.ds = [] ∧ ∃ i' rs' u', i < i' ∧ Bld Hb ls i' rs' u' h' ∧ Has e' (EL ls cs sv u' i' st)
set_option maxHeartbeats 1000000 in
theorem one_rec (k : Bld Hb ls i rs u H) (hi : i < ls.length) (hls : ls.length ≤ 100000) (h64 : ∀ v ∈ ls, v < 18446744073709551616) {n : Int} (hn : -50 < n ∧ n < 50) (e : Env) (hd : e.ds = []) (hh : Has e (EN ls cs sv u i st n)) (Q : Xit → Env → Hp → Prop) (hQ : ∀ e' h', BP Hb ls cs sv i st e' h' → Q (.exit 1) e' h') :
  LCode Tryz.prog false (.seq (.ops A_lexiconlaw12_DecodeRuns_9) (.cond (.t 61) (.seq (.ops A_lexiconlaw12_DecodeRuns_10) (.seq (.ops A_lexiconlaw12_DecodeRuns_11) (.seq (.ops A_lexiconlaw12_DecodeRuns_12) (.exit 1)))) .skip))
   (toPost (fun e' h' => h' = H ∧ e'.ds = [] ∧ 1 ≤ n ∧ Has e' (EN ls cs sv u i st n)) Q) e H := by
 obtain ⟨n0, g0, rfl⟩ := hh.out hd
 have hrl : (bt (recB rs)).length ≤ 2100000 := by rw [bt_len]; have := k.len; omega
 refine s_le (fun (h1 : n ≤ 0) => ?_) (fun (h1 : (0 : Int) < n) => ?_)
 ·refine ⟨_, rfl, fun tb htb => ?_⟩
  refine ⟨bt [16], ⟨_, _, Hp.set_same _ _ _, Nat.le_refl _, rfl⟩, ?_⟩
  refine AccE.app (k.ac.set htb.1 _) (bt_one _) (bt_flat _) (by rw [bt_len [16]]; unfold capMax; simp; omega) (by rw [bt_len [16]]; unfold capMax; simp; omega) fun v1 H1 ha1 hf1 hu1 hb1 => ?_
  rw [← bt_app] at ha1
  obtain ⟨v, hv⟩ := get_lt (l := ls) (k := i) hi
  have hv64 := h64 v (List.mem_of_getElem? hv)
  refine s_at (f := fun v : Nat => [AV.int .u64 (v : Nat)]) i v rfl hv rfl (by decide) ?_
  refine ⟨_, rfl, ?_⟩
  refine s_ie (d := -n) (by rw [wrap_i64 (by omega) (by omega)]; omega) ?_
  refine (varintM_L hv64 (-n) (by omega) H1).mono ?_
  rintro r H2 ⟨j, p, c, rfl, hvb, hj, hjr, g2⟩
  have hpl := hvb.len
  refine ⟨bt (p ++ [c]), ⟨_, _, hjr, by omega, by rw [List.drop_zero, List.take_length]⟩, ?_⟩
  have hl16 : (bt (recB rs ++ [16])).length ≤ 2100001 := by rw [bt_len, List.length_append]; rw [bt_len] at hrl; simp; omega
  have hpc : (bt (p ++ [c])).length ≤ 10 := by rw [bt_len, List.length_append]; simp; omega
  refine AccE.app (ha1.keep g2) (bt_one _) (bt_flat _) (by unfold capMax; omega) (by unfold capMax; omega) fun v3 H3 ha3 hf3 hu3 hb3 => ?_
  rw [← bt_app] at ha3
  refine s_nat (i + 1) (by omega) (by omega) ?_
  refine hQ _ _ ⟨rfl, i + 1, rs ++ [.one (p ++ [c]) v], v3, by omega, ?_, rfl, rfl, rfl, rfl, rfl, rfl, trivial⟩
  refine k.add (p := .one (p ++ [c]) v) hvb.vs ?_ ?_ (by omega) (by rw [List.append_assoc] at ha3; exact ha3)
  ·show [v] = (ls.drop i).take 1
   rw [drop_cons hv]; rfl
  ·show (16 :: (p ++ [c])).length ≤ 21 * 1
   rw [List.length_cons, List.length_append]; simp; omega
 ·exact ⟨rfl, rfl, by omega, rfl, rfl, rfl, rfl, rfl, rfl, rfl, trivial⟩
set_option maxHeartbeats 1000000 in
theorem run_loop (hls : ls.length ≤ 100000) (hi : i < ls.length) (h64 : ∀ v ∈ ls, v < 18446744073709551616) {n : Int} (hn : 1 ≤ n ∧ n < 50) (e : Env) (hd : e.ds = []) (hh : Has e (EN ls cs sv u i st n)) (Q : Xit → Env → Hp → Prop) :
    LCode Tryz.prog false (.seq (.ops [o_ 13 (.mov (.c (.nils)))]) (.seq (.ops [o_ 14 (.mov (i_ 0))]) (.block 2 (.loop A_lexiconlaw12_DecodeRuns_17))))
      (toPost (fun e' h' => e'.ds = [] ∧ ∃ (ps : List (Str × Nat)) (j : Nat), 1 ≤ ps.length ∧ i + ps.length ≤ ls.length ∧ (∀ p ∈ ps, VS p.1 p.2) ∧ ps.map (·.2) = (ls.drop i).take ps.length ∧ (byts ps).length ≤ 10 * ps.length ∧ Gr H h' ∧ h' j = some (.row Tb (bt (byts ps))) ∧ H.u j = false ∧
        Has e' [(0, .isl 0 (ux ls)), (1, .isl 0 (cx cs)), (8, sv), (9, u), (10, .int .i64 ((i + ps.length : Nat) : Int)), (11, .int .i64 (st : Nat)), (12, .int .i64 n), (13, .slc j 0 (bt (byts ps)).length none)]) Q) e H := by
  obtain ⟨n0, g0, rfl⟩ := hh.out hd
  have hul := ux_len ls
  refine s_blk (id := 2) (fun e' h' => e'.ds = [] ∧ ∃ (ps : List (Str × Nat)) (j : Nat), 1 ≤ ps.length ∧ i + ps.length ≤ ls.length ∧ (∀ p ∈ ps, VS p.1 p.2) ∧ ps.map (·.2) = (ls.drop i).take ps.length ∧ (byts ps).length ≤ 10 * ps.length ∧ Gr H h' ∧ h' j = some (.row Tb (bt (byts ps))) ∧ H.u j = false ∧
        Has e' [(0, .isl 0 (ux ls)), (1, .isl 0 (cx cs)), (8, sv), (9, u), (10, .int .i64 ((i + ps.length : Nat) : Int)), (11, .int .i64 (st : Nat)), (12, .int .i64 n), (13, .slc j 0 (bt (byts ps)).length none)]) ?_ (fun _ _ h => h)
  refine s_loop 50 (fun q (s : List (Str × Nat) × AV × Hp) => s.1.length = q ∧ (q : Int) ≤ n ∧ i + q ≤ ls.length ∧ (∀ p ∈ s.1, VS p.1 p.2) ∧ s.1.map (·.2) = (ls.drop i).take q ∧ (byts s.1).length ≤ 10 * q ∧ AccE Tb H s.2.2 s.2.1 (bt (byts s.1)) ∧ (∀ p ∈ s.1, 0 < p.1.length))
    (fun q s => [(0, .isl 0 (ux ls)), (1, .isl 0 (cx cs)), (8, sv), (9, u), (10, .int .i64 ((i + q : Nat) : Int)), (11, .int .i64 (st : Nat)), (12, .int .i64 n), (13, s.2.1), (14, .int .i64 (q : Nat))]) (fun _ s => s.2.2) ([], .nils, H)
    ⟨rfl, by omega, by omega, (fun p hp => by cases hp), rfl, Nat.le_refl _, AccE.nil _ _, fun p hp => by cases hp⟩ rfl rfl ⟨rfl, rfl, rfl, rfl, rfl, rfl, rfl, rfl, rfl, trivial⟩ (fun q s hI => by have := hI.2.1; omega) ?_
  rintro q ⟨ps, ru, H1⟩ n1 g1 hq ⟨q1, q2, q3, q4, q5, q6, ac, q8⟩
  simp only at q1 q2 q3 q4 q5 q6 ac q8
  have stop : 1 ≤ q → ∃ j, ru = .slc j 0 (bt (byts ps)).length none ∧ H1 j = some (.row Tb (bt (byts ps))) ∧ H.u j = false := fun h1 => by
    obtain ⟨_, ⟨_, e0⟩ | ⟨j, e1, e2, e3⟩⟩ := ac
    · exfalso
      have := congrArg List.length e0
      rw [bt_len] at this
      cases ps with
      | nil => rw [List.length_nil] at q1; omega
      | cons p ps =>
        have hp := q8 p List.mem_cons_self
        rw [byts_cons, List.length_append] at this
        rw [List.length_nil] at this; omega
    · exact ⟨j, e1, e3, e2⟩
  refine s_lt (fun (h1 : (q : Int) < n) => ?_) (fun (h1 : n ≤ (q : Int)) => ?_)
  · refine s_lt (fun (h2 : ((i + q : Nat) : Int) < ((ux ls).length : Nat)) => ?_) (fun (h2 : (((ux ls).length : Nat) : Int) ≤ (i + q : Nat)) => ?_)
    · obtain ⟨v, hv⟩ := get_lt (l := ls) (k := i + q) (by omega)
      have hv64 := h64 v (List.mem_of_getElem? hv)
      refine s_at (f := fun v : Nat => [AV.int .u64 (v : Nat)]) (i + q) v rfl hv rfl (by decide) ?_
      refine ⟨_, rfl, ?_⟩
      refine ⟨by decide, ?_⟩
      intro m hm
      have hb := tmod_b n 3 (by decide)
      have hm2 : m = Int.tmod n 3 := hm
      refine (varintM_L hv64 m (by omega) H1).mono ?_
      rintro r H2 ⟨j, p, c, rfl, hvb, hj, hjr, g2⟩
      have hpl := hvb.len
      refine ⟨bt (p ++ [c]), ⟨_, _, hjr, by omega, by rw [List.drop_zero, List.take_length]⟩, ?_⟩
      have hpc : (bt (p ++ [c])).length ≤ 10 := by rw [bt_len, List.length_append]; simp; omega
      have hbp : (bt (byts ps)).length ≤ 1000 := by rw [bt_len]; omega
      refine AccE.app (ac.keep g2) (bt_one _) (bt_flat _) (by unfold capMax; omega) (by unfold capMax; omega) fun v3 H3 ha3 hf3 hu3 hb3 => ?_
      have hby : byts (ps ++ [(p ++ [c], v)]) = byts ps ++ (p ++ [c]) := by rw [byts_app, byts_one]
      rw [← bt_app, ← hby] at ha3
      refine s_nat (i + (q + 1)) (by omega) (by omega) ?_
      refine s_nat (q + 1) (by omega) (by omega) ?_
      refine ⟨(ps ++ [(p ++ [c], v)], v3, H3), by omega, ⟨by rw [List.length_append, q1]; rfl, by omega, by omega, fun x hx => ?_, ?_, ?_, ha3, fun x hx => ?_⟩, rfl, rfl, rfl, rfl, rfl, rfl, rfl, rfl, rfl, rfl, rfl, trivial⟩
      · rcases List.mem_append.1 hx with h | h
        · exact q4 x h
        · rw [List.mem_singleton.1 h]; exact hvb.vs
      · have hdv : (ls.drop i)[q]? = some v := by rw [List.getElem?_drop]; exact hv
        rw [List.map_append, q5, List.take_add_one, hdv]; rfl
      · rw [hby, List.length_append, List.length_append]; simp; omega
      · rcases List.mem_append.1 hx with h | h
        · exact q8 x h
        · rw [List.mem_singleton.1 h]; simp
    · obtain ⟨j, rfl, hj, hju⟩ := stop (by omega)
      rw [← q1]
      exact ⟨rfl, ps, j, by omega, by omega, q4, by rw [q5, q1], by omega, ac.1, hj, hju, rfl, rfl, rfl, rfl, rfl, rfl, rfl, rfl, trivial⟩
  · obtain ⟨j, rfl, hj, hju⟩ := stop (by omega)
    rw [← q1]
    exact ⟨rfl, ps, j, by omega, by omega, q4, by rw [q5, q1], by omega, ac.1, hj, hju, rfl, rfl, rfl, rfl, rfl, rfl, rfl, rfl, trivial⟩
end
end Go.Proofs.YtgjjbfhamlecoacGreatDoor

namespace Go.Proofs.YtgjjbfhamlecoacGreatDoor
open Go.L
section
variable {Hb H : Hp} {ls : List Nat} {cs : List Int} {i st : Nat} {rs : List Rn} {u sv : AV}
theorem accE_u {T : TypeId} {h H : Hp} {v : AV} {es : List (List AV)} (a : AccE T h H v es) {x : Nat} (e : blkOf v = some x) : H.u x = true := by
 obtain ⟨_, ⟨rfl, _⟩ | ⟨j, rfl, _, h3⟩⟩ := a
 ·cases e
 ·cases e; exact Hp.used h3
set_option maxHeartbeats 2000000 in
theorem add_run (k : Bld Hb ls i rs u H) (hls : ls.length ≤ 100000) {n : Int} (hn : 1 ≤ n ∧ n < 50) {ps : List (Str × Nat)} {j : Nat} {H0 : Hp} (hp1 : 1 ≤ ps.length) (hp2 : i + ps.length ≤ ls.length) (hp3 : ∀ p ∈ ps, VS p.1 p.2) (hp4 : ps.map (·.2) = (ls.drop i).take ps.length)
  (hp5 : (byts ps).length ≤ 10 * ps.length) (g : Gr H H0) (hj : H0 j = some (.row Tb (bt (byts ps)))) (hju : H.u j = false) (e : Env) (hd : e.ds = [])
  (hh : Has e [(0, .isl 0 (ux ls)), (1, .isl 0 (cx cs)), (8, sv), (9, u), (10, .int .i64 ((i + ps.length : Nat) : Int)), (11, .int .i64 (st : Nat)), (12, .int .i64 n), (13, .slc j 0 (bt (byts ps)).length none)]) (Q : Xit → Env → Hp → Prop) (hQ : ∀ e' h', BP Hb ls cs sv i st e' h' → Q .normal e' h') :
  LCode Tryz.prog false (.seq (.ops A_lexiconlaw12_DecodeRuns_18) (.seq (.ops A_lexiconlaw12_DecodeRuns_19) (.ops A_lexiconlaw12_DecodeRuns_20))) Q e H0 := by
 obtain ⟨n0, g0, rfl⟩ := hh.out hd
 have hrl : (bt (recB rs)).length ≤ 2100000 := by rw [bt_len]; have := k.len; have := k.il; omega
 have hbu : blkOf u ≠ some j := fun e => by have := accE_u k.ac e; rw [hju] at this; cases this
 have k0 := k.keep g
 have hbl := bt_len (byts ps)
 refine ⟨_, rfl, fun tb htb => ?_⟩
 refine ⟨bt [18], ⟨_, _, Hp.set_same _ _ _, Nat.le_refl _, rfl⟩, ?_⟩
 have h18 : (bt [18]).length = 1 := rfl
 refine AccE.app (k0.ac.set htb.1 _) (bt_one _) (bt_flat _) (by rw [h18]; unfold capMax; omega) (by rw [h18]; unfold capMax; omega) fun v1 H1 ha1 hf1 hu1 hb1 => ?_
 rw [← bt_app] at ha1
 have j1 := (hf1 j (by rw [Hp.set_u, Hp.used hj]; simp) hbu).trans ((Hp.set_ne (ne_of_u (Hp.used hj) htb.1)).trans hj)
 have hb1' : blkOf v1 ≠ some j := fun e => (hb1 j e).elim hbu (fun h => by rw [Hp.set_u, Hp.used hj] at h; simp at h)
 have h1l : (bt (recB rs ++ [18])).length ≤ 2100001 := by rw [bt_len, List.length_append]; rw [bt_len] at hrl; simp; omega
 refine s_ie (d := ((byts ps).length : Nat)) (by rw [IntKind.wrap_u64]; omega) ?_
 refine ⟨by decide, ?_⟩
 intro m hm
 have hb := tmod_b n 2 (by decide)
 have hm2 : m = Int.tmod n 2 := hm
 refine (varintM_L (v := (byts ps).length) (by omega) m (by omega) H1).mono ?_
 rintro r H2 ⟨jj, p, c, rfl, hvb, hjj, hjr, g2⟩
 have hpl := hvb.len
 refine ⟨bt (p ++ [c]), ⟨_, _, hjr, by omega, by rw [List.drop_zero, List.take_length]⟩, ?_⟩
 have hpc : (bt (p ++ [c])).length ≤ 10 := by rw [bt_len, List.length_append]; simp; omega
 refine AccE.app (ha1.keep g2) (bt_one _) (bt_flat _) (by unfold capMax; omega) (by unfold capMax; omega) fun v3 H3 ha3 hf3 hu3 hb3 => ?_
 rw [← bt_app] at ha3
 have j3 := (hf3 j (Hp.used (g2.blk j1)) hb1').trans (g2.blk j1)
 have h3l : (bt (recB rs ++ [18] ++ (p ++ [c]))).length ≤ 2100020 := by rw [bt_len, List.length_append]; rw [bt_len] at h1l hpc; omega
 refine ⟨bt (byts ps), ⟨_, _, j3, by omega, by rw [List.drop_zero, List.take_length]⟩, ?_⟩
 refine AccE.app ha3 (bt_one _) (bt_flat _) (by unfold capMax; omega) (by unfold capMax; omega) fun v4 H4 ha4 hf4 hu4 hb4 => ?_
 rw [← bt_app] at ha4
 refine hQ _ _ ⟨rfl, i + ps.length, rs ++ [.run (p ++ [c]) ps], v4, by omega, ?_, rfl, rfl, rfl, rfl, rfl, rfl, trivial⟩
 refine k.add (p := .run (p ++ [c]) ps) ⟨hvb.vs, hp3⟩ hp4 ?_ hp2 ?_
 ·show (18 :: ((p ++ [c]) ++ byts ps)).length ≤ 21 * ps.length
  rw [List.length_cons, List.length_append]
  rw [bt_len] at hpc
  omega
 ·have e : recB rs ++ (Rn.run (p ++ [c]) ps).bytes = recB rs ++ [18] ++ (p ++ [c]) ++ byts ps := by
   show recB rs ++ 18 :: ((p ++ [c]) ++ byts ps) = _
   simp
  rw [e]; exact ha4
theorem runs_loop (hls : ls.length ≤ 100000) (hcs : cs.length ≤ 1000000000000000) (h64 : ∀ v ∈ ls, v < 18446744073709551616) (hsv : notTup sv = true) (e : Env) (hd : e.ds = []) (hh : Has e (EL ls cs sv .nils 0 0)) (Q : Xit → Env → Hp → Prop) :
  LCode Tryz.prog false (.block 0 (.loop A_lexiconlaw12_DecodeRuns_21))
   (toPost (fun e' h' => e'.ds = [] ∧ ∃ rs u, Bld Hb ls ls.length rs u h' ∧ Has e' [(0, .isl 0 (ux ls)), (1, .isl 0 (cx cs)), (8, sv), (9, u)]) Q) e Hb := by
 have hul := ux_len ls
 refine s_blk (id := 0) (fun e' h' => e'.ds = [] ∧ ∃ rs u, Bld Hb ls ls.length rs u h' ∧ Has e' [(0, .isl 0 (ux ls)), (1, .isl 0 (cx cs)), (8, sv), (9, u)]) ?_ (fun _ _ h => h)
 refine s_loop ls.length (fun st (s : Nat × List Rn × AV × Hp) => st ≤ s.1 ∧ Bld Hb ls s.1 s.2.1 s.2.2.1 s.2.2.2) (fun st s => EL ls cs sv s.2.2.1 s.1 st) (fun _ s => s.2.2.2) (0, [], .nils, Hb)
  ⟨Nat.le_refl _, AccE.nil _ _, (fun p hp => by cases hp), rfl, Nat.le_refl _, Nat.zero_le _⟩ rfl hd hh (fun st s hI => Nat.le_trans hI.1 hI.2.il) ?_
 rintro st ⟨i, rs, u, H⟩ n0 g0 hst ⟨q1, k⟩
 simp only at q1 k
 refine s_lt (fun (h1 : ((i : Nat) : Int) < ((ux ls).length : Nat)) => ?_) (fun (h1 : (((ux ls).length : Nat) : Int) ≤ (i : Nat)) => ?_)
 ·refine s_blk (id := 1) (BP Hb ls cs sv i (st + 1)) ?_ ?_
  ·refine s_then3 (fun e' h' => h' = H ∧ e'.ds = [] ∧ ∃ n : Int, -50 < n ∧ n < 50 ∧ Has e' (EN ls cs sv u i (st + 1) n)) ?_ ?_
   ·exact pick_n (H := H) (ls := ls) (cs := cs) (i := i) (st := st) (u := u) (sv := sv) (by omega) hcs hsv _ rfl ⟨rfl, rfl, rfl, rfl, rfl, rfl, trivial⟩ _
   rintro e1 h1' ⟨rfl, hd1, n, hn1, hn2, hh1⟩
   refine s_then (fun e' h' => h' = h1' ∧ e'.ds = [] ∧ 1 ≤ n ∧ Has e' (EN ls cs sv u i (st + 1) n)) (one_rec k (by omega) hls h64 ⟨hn1, hn2⟩ _ hd1 hh1 _ fun e' h' hb => hb) ?_
   rintro e2 h2 ⟨rfl, hd2, hn3, hh2⟩
   refine s_then2 _ (run_loop hls (by omega) h64 ⟨hn3, hn2⟩ _ hd2 hh2 _) ?_
   rintro e3 h3 ⟨hd3, ps, j, p1, p2, p3, p4, p5, g, hj, hju, hh3⟩
   exact add_run k hls ⟨hn3, hn2⟩ p1 p2 p3 p4 p5 g hj hju e3 hd3 hh3 _ fun e' h' hb => hb
  ·rintro e' h' ⟨hd', i', rs', u', hlt, k', hh'⟩
   exact ⟨(i', rs', u', h'), by have := k'.il; omega, ⟨by show st + 1 ≤ i'; omega, k'⟩, rfl, hd', hh'⟩
 ·have hi : i = ls.length := by have := k.il; omega
  subst hi
  exact ⟨rfl, rs, u, k, rfl, rfl, rfl, rfl, trivial⟩
end
end Go.Proofs.YtgjjbfhamlecoacGreatDoor
