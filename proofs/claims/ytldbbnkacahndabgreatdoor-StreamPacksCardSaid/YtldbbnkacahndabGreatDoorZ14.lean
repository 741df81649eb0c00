/- Contracts of functions of the given program, in the logic L: texts put together; no conditions. -/
import Derived.Test.YtldbbnkacahndabGreatDoorZ13
import Derived.Test.YtldbbnkacahndabGreatDoorZ3
namespace Go.Proofs.YtldbbnkacahndabGreatDoor
open Go.L
def mk8 (a b : Int) : Int := IntKind.u8.wrap (IntKind.i64.wrap (IntKind.i64.wrap (a * 97) + IntKind.i64.wrap (b * 13)))
def markL (i : Int) (n : Nat) : List Int := (List.range n).map fun k : Nat => mk8 i k
def markAll (ds : List (List Int)) : List (List Int) := (List.range ds.length).map fun i : Nat => markL i ((ds[i]?).getD []).length
theorem markL_len (i : Int) (n : Nat) : (markL i n).length = n := by rw [markL, List.length_map, List.length_range]
theorem markL_get {i : Int} {n k : Nat} (h : k < n) : (markL i n)[k]? = some (mk8 i k) := by rw [markL, List.getElem?_map, List.getElem?_range h]; rfl
theorem markL_succ (i : Int) (n : Nat) : markL i (n + 1) = markL i n ++ [mk8 i (n : Nat)] := by rw [markL, List.range_succ, List.map_append]; rfl
abbrev bxx (ds : List (List Int)) : List (List (List AV)) := ds.map bx
abbrev one (us : List AV) : List (List AV) := us.map fun u => [u]
theorem bxx_get {ds : List (List Int)} {i : Nat} {d : List Int} (h : ds[i]? = some d) : (bxx ds)[i]? = some (bx d) := by rw [List.getElem?_map, h]; rfl
theorem one_get {us : List AV} {i : Nat} {u : AV} (h : us[i]? = some u) : (one us)[i]? = some [u] := by rw [List.getElem?_map, h]; rfl
theorem one_len (us : List AV) : (one us).length = us.length := List.length_map _
structure Row1 (H : Hp) (j : Nat) (us : List AV) : Prop where
 row : ∃ row, H j = some (.row Tbl row) ∧ ∀ (i : Nat) (u : AV), us[i]? = some u → row[0 + i]? = some [u]
theorem ownT1 (us : List AV) (ds : List (List Int)) (h0 H : Hp) (j : Nat) (hr : Row1 h0 j us) (hj : ∀ u ∈ us, blkOf u ≠ some j) (ho : OwnCC Tb h0 us (bxx ds)) (hlen : us.length ≤ 1000000) (hd : ∀ d ∈ ds, d.length ≤ 1000000000) (e : Env) (hh : H = h0) (hds : e.ds = [])
  (hs : Has e [(0, .slc j 0 us.length none), (3, .int .i64 (0 : Nat))]) (Q : Xit → Env → Hp → Prop)
  (hQ : ∀ e' H', e'.ds = [] → Has e' [(0, .slc j 0 us.length none)] → Fr us h0 H' → OwnCC Tb H' us (bxx (markAll ds)) → Q (.exit 0) e' H') :
  LCode Tryz.prog false (.loop A_lexiconref00_ownBytes_6) Q e H := by
 subst hh
 have hdl : ds.length = us.length := by have := ho.len; rwa [List.length_map] at this
 have rd : ∀ {H' : Hp}, Fr us H H' → Row1 H' j us := fun f => by
  obtain ⟨row, h1, h2⟩ := hr.row
  exact ⟨row, (f.m j (Hp.used h1) hj).trans h1, h2⟩
 refine s_loop us.length (fun i (s : Hp × List (List Int)) => i ≤ us.length ∧ Fr us H s.1 ∧ OwnCC Tb s.1 us (bxx s.2) ∧ (∀ a, i ≤ a → s.2[a]? = ds[a]?) ∧ ∀ (a : Nat) (d : List Int), a < i → ds[a]? = some d → s.2[a]? = some (markL a d.length))
  (fun i _ => [(0, .slc j 0 us.length none), (3, .int .i64 i)]) (fun _ s => s.1) (H, ds) ⟨Nat.zero_le _, Fr.refl _ _, ho, fun _ _ => rfl, fun a d ha => by omega⟩ rfl hds hs (fun k s hI => hI.1) ?_
 rintro i ⟨H', es⟩ n0 g0 hi ⟨_, hF, hO, hE1, hE2⟩
 simp only at hF hO hE1 hE2
 have hel : es.length = us.length := by have := hO.len; rwa [List.length_map] at this
 refine s_lt (fun h1 => ?_) (fun h1 => ?_)
 ·obtain ⟨u, hu⟩ := get_lt (l := us) (k := i) (by omega)
  obtain ⟨d, hd'⟩ := get_lt (l := ds) (k := i) (by omega)
  have hdm := hd d (List.mem_of_getElem? hd')
  refine s_loop d.length (fun k (s : Hp × List (List Int)) => k ≤ d.length ∧ Fr us H s.1 ∧ OwnCC Tb s.1 us (bxx s.2) ∧ (∀ a, a ≠ i → s.2[a]? = es[a]?) ∧ ∃ x, s.2[i]? = some x ∧ x.length = d.length ∧ x.take k = markL i k)
   (fun k _ => [(0, .slc j 0 us.length none), (3, .int .i64 i), (4, .int .i64 k)]) (fun _ s => s.1) (H', es) ⟨Nat.zero_le _, hF, hO, fun _ _ => rfl, d, by rw [hE1 i (Nat.le_refl _), hd'], rfl, rfl⟩ rfl rfl ⟨rfl, rfl, rfl, trivial⟩ (fun k s hI => hI.1) ?_
  rintro k ⟨H2, fs⟩ n1 g1 hk ⟨_, hF2, hO2, hE3, x, hx, hxl, hxt⟩
  simp only at hF2 hO2 hE3 hx
  obtain ⟨row, hr1, hr2⟩ := (rd hF2).row
  have hru := hr2 i u hu
  refine ⟨i, rfl, by omega, ⟨_, hr1⟩, ?_⟩
  refine ⟨_, _, _, _, hr1, hru, rfl, ?_⟩
  have fin : d.length ≤ k → i + 1 ≤ us.length ∧ Fr us H H2 ∧ OwnCC Tb H2 us (bxx fs) ∧ (∀ a, i + 1 ≤ a → fs[a]? = ds[a]?) ∧ ∀ (a : Nat) (d : List Int), a < i + 1 → ds[a]? = some d → fs[a]? = some (markL a d.length) := fun h2 => by
   obtain rfl : k = d.length := by omega
   refine ⟨by omega, hF2, hO2, fun a ha => (hE3 a (by omega)).trans (hE1 a (by omega)), fun a d' ha hda => ?_⟩
   by_cases e : a = i
   ·subst e
    rw [hd'] at hda; cases hda
    rw [hx, ← hxt, List.take_of_length_le (by omega)]
   ·exact (hE3 a e).trans (hE2 a d' (by omega) hda)
  rcases hO2.own i u (bx x) hu (bxx_get hx) with ⟨rfl, h0⟩ | ⟨b, rest, rfl, hb⟩
  ·have h00 : x = [] := List.map_eq_nil_iff.1 h0
   subst h00
   refine s_lt (fun h2 => by omega) (fun h2 => ?_)
   refine s_nat (i + 1) (by omega) (by omega) ?_
   exact ⟨(H2, fs), by omega, fin (by simp at hxl; omega), rfl, rfl, rfl, rfl, trivial⟩
  have htx := bx_len x
  refine s_lt (fun h2 => ?_) (fun h2 => ?_)
  ·obtain ⟨y, hy⟩ := get_lt (l := x) (k := k) (by omega)
   obtain ⟨b', rest', hub, hb, hO3⟩ := hO2.write (c := eb (mk8 i k)) (bxx_get hx) (bx_get hy)
   rw [hu] at hub
   obtain rfl : b = b' := by
    injection hub with hub
    injection hub
   refine ⟨i, rfl, by omega, ⟨_, hr1⟩, ?_⟩
   refine ⟨_, _, _, _, hr1, hru, rfl, ?_⟩
   refine s_i (s_i (s_i (s_i ?_)))
   refine ⟨k, rfl, by omega, ⟨_, hb⟩, ?_⟩
   refine ⟨_, _, _, hb, (by rw [Nat.zero_add]; exact bx_get2 hy), rfl, rfl, rfl, Nat.le_refl _, ?_⟩
   refine s_nat (k + 1) (by omega) (by omega) ?_
   refine ⟨(_, fs.set i (x.set k (mk8 i k))), by omega, ⟨by omega, hF2.set (List.mem_of_getElem? hu) rfl, ?_, fun a ha => ?_, x.set k (mk8 i k), ?_, by rw [List.length_set, hxl], ?_⟩, rfl, rfl, rfl, rfl, rfl, trivial⟩
   ·have e : bxx (fs.set i (x.set k (mk8 i k))) = (bxx fs).set i ((bx x).set k (eb (mk8 i k))) := by
     simp only [bxx, List.map_set]
    show OwnCC _ _ us (bxx (fs.set i (x.set k (mk8 i k))))
    rw [e]; exact hO3
   ·show (fs.set i _)[a]? = _
    rw [List.getElem?_set, if_neg (Ne.symm ha)]; exact hE3 a ha
   ·show (fs.set i _)[i]? = _
    rw [List.getElem?_set, if_pos rfl, if_pos (List.getElem?_eq_some_iff.1 hx).1]
   ·rw [markL_succ, ← hxt, List.take_succ_of_get (x := mk8 i k) (by rw [List.getElem?_set, if_pos rfl, if_pos (by omega)]), List.take_set_of_le (Nat.le_refl _)]
  ·refine s_nat (i + 1) (by omega) (by omega) ?_
   exact ⟨(H2, fs), by omega, fin (by omega), rfl, rfl, rfl, rfl, trivial⟩
 ·obtain rfl : i = us.length := by omega
  refine hQ _ _ rfl ⟨rfl, trivial⟩ hF ?_
  have e : es = markAll ds := by
   refine List.ext_getElem? fun a => ?_
   rcases Nat.lt_or_ge a ds.length with ha | ha
   ·obtain ⟨d, hda⟩ := get_lt (l := ds) (k := a) ha
    rw [hE2 a d (by omega) hda, markAll, List.getElem?_map, List.getElem?_range ha]
    simp [hda]
   ·rw [List.getElem?_eq_none (by omega), List.getElem?_eq_none (by rw [markAll, List.length_map, List.length_range]; exact ha)]
  rw [← e]; exact hO
theorem Tb_ne_Tbl : Tb ≠ Tbl := by decide
def XOK (H : Hp) (us : List AV) (a : Nat) (d : List Int) (x : AV) : Prop := ∃ c row q, x = .slc c 0 (d.length + 16) q ∧ H c = some (.row Tb row) ∧ (∀ (u : AV) (b : Nat), us[b]? = some u → blkOf u = some c → b = a) ∧ ∀ (q : Nat) (s : Int), (d ++ markL (-1 - (a : Int)) 16)[q]? = some s → row[0 + q]? = some (eb s)
theorem noBlk {h H : Hp} {w : AV} {es : List (List AV)} (a : Acc Tbl h H w es) {c : Nat} {row : List (List AV)} (hc : H c = some (.row Tb row)) : blkOf w ≠ some c := fun e => by
 rcases a.2 with ⟨rfl, _⟩ | ⟨j, r, rfl, _, h2, _⟩
 ·cases e
 ·cases e
  rw [h2] at hc
  injection hc with hc
  injection hc with hc _
  exact Tb_ne_Tbl hc.symm
theorem Acc.same {T : Nat} {h H H' : Hp} {v : AV} {es : List (List AV)} (a : Acc T h H v es) (g : Gr h H') (k : ∀ b, blkOf v = some b → H.u b = true → H' b = H b) : Acc T h H' v es := by
 rcases a.2 with k2 | ⟨j, row, rfl, h2, h3, h4⟩
 ·exact ⟨g, .inl k2⟩
 ·exact ⟨g, .inr ⟨j, row, rfl, h2, (k j rfl (Hp.used h3)).trans h3, h4⟩⟩
def inU (us : List AV) (x : Nat) : Bool := us.any fun u => blkOf u == some x
theorem inU_f {us : List AV} {x : Nat} : inU us x = false ↔ ∀ u ∈ us, blkOf u ≠ some x := by
 simp [inU]
def hpO (us : List AV) (H : Hp) : Hp := ⟨fun x => cond (inU us x) none (H x), fun x => cond (inU us x) false (H.u x), fun x hx => by
 cases h : inU us x <;> rw [h] at hx
 ·exact H.ok x hx
 ·rfl, let ⟨n, hn⟩ := H.cof; ⟨n, fun x hx => by cases inU us x <;> simp [hn x hx]⟩⟩
theorem hpO_out {us : List AV} {H : Hp} {x : Nat} (h : ∀ u ∈ us, blkOf u ≠ some x) : hpO us H x = H x ∧ (hpO us H).u x = H.u x := by
 have := inU_f.2 h
 exact ⟨by show cond (inU us x) _ _ = _; rw [this]; rfl, by show cond (inU us x) _ _ = _; rw [this]; rfl⟩
theorem hpO_in {us : List AV} {H : Hp} {x : Nat} (h : (hpO us H).u x = true) : (∀ u ∈ us, blkOf u ≠ some x) ∧ H.u x = true := by
 have h' : cond (inU us x) false (H.u x) = true := h
 cases e : inU us x <;> rw [e] at h'
 ·exact ⟨inU_f.1 e, h'⟩
 ·cases h'
theorem hpO_gr (us : List AV) (H : Hp) : Gr (hpO us H) H := ⟨fun x hx => (hpO_out (hpO_in hx).1).1.symm, fun x hx => (hpO_in hx).2⟩
theorem hpO_fr {us : List AV} {H H' : Hp} (g : Gr (hpO us H) H') (h : ∀ u ∈ us, ∀ b, blkOf u = some b → H'.u b = true) : Fr us H H' := by
 refine ⟨fun x h1 h2 => ?_, fun x h1 => ?_⟩
 ·have := hpO_out (H := H) h2
  rw [← this.1]; exact g.m x (this.2.trans h1)
 ·by_cases e : inU us x = true
  ·simp only [inU, List.any_eq_true, beq_iff_eq] at e
   obtain ⟨u, hu, hb⟩ := e
   exact h u hu x hb
  ·have := hpO_out (H := H) (inU_f.1 (by simpa using e))
   exact g.u x (this.2.trans h1)
theorem OwnC.row {T : Nat} {H H' : Hp} {u : AV} {d : List (List AV)} (g : ∀ b r, blkOf u = some b → H b = some (.row T r) → H' b = some (.row T r)) (k : OwnC T H u d) : OwnC T H' u d := by
 rcases k with k | ⟨b, rest, rfl, h2⟩
 ·exact .inl k
 ·exact .inr ⟨b, rest, rfl, g b _ rfl h2⟩
theorem Fr.trans {us : List AV} {H H1 H2 : Hp} (a : Fr us H H1) (b : Fr us H1 H2) : Fr us H H2 := ⟨fun x h1 h2 => (b.m x (a.u x h1) h2).trans (a.m x h1 h2), fun x h => b.u x (a.u x h)⟩
theorem ownT2 (us : List AV) (es : List (List Int)) (H : Hp) (j : Nat) (row : List (List AV)) (hrow : H j = some (.row Tbl row)) (hr2 : ∀ (i : Nat) (u : AV), us[i]? = some u → row[0 + i]? = some [u]) (hj : ∀ u ∈ us, blkOf u ≠ some j) (ho : OwnCC Tb H us (bxx es)) (hlen : us.length ≤ 1000000) (hd : ∀ d ∈ es, d.length ≤ 1000000000) (e : Env) (hds : e.ds = [])
  (hs : Has e [(0, .slc j 0 us.length none), (5, .nils), (6, .int .i64 (0 : Nat))]) (Q : Xit → Env → Hp → Prop)
  (hQ : ∀ e' H' w xs, e'.ds = [] → Has e' [(0, .slc j 0 us.length none), (5, w)] → xs.length = us.length → Acc Tbl (hpO us H) H' w (one xs) → Fr us H H' → OwnCC Tb H' us (bxx es) → (∀ (a : Nat) (x : AV) (d : List Int), xs[a]? = some x → es[a]? = some d → XOK H' us a d x) → Q (.exit 4) e' H') :
  LCode Tryz.prog false (.loop A_lexiconref00_ownBytes_15) Q e H := by
 have hel : es.length = us.length := by have := ho.len; rwa [List.length_map] at this
 refine s_loop us.length (fun i (s : Hp × AV × List AV) => i ≤ us.length ∧ s.2.2.length = i ∧ Acc Tbl (hpO us H) s.1 s.2.1 (one s.2.2) ∧ OwnCC Tb s.1 us (bxx es) ∧ ∀ (a : Nat) (x : AV) (d : List Int), s.2.2[a]? = some x → es[a]? = some d → XOK s.1 us a d x)
  (fun i s => [(0, .slc j 0 us.length none), (5, s.2.1), (6, .int .i64 i)]) (fun _ s => s.1) (H, .nils, []) ⟨Nat.zero_le _, rfl, ⟨hpO_gr us H, .inl ⟨rfl, rfl⟩⟩, ho, fun a x d hx => by simp at hx⟩ rfl hds hs (fun k s hI => hI.1) ?_
 rintro i ⟨Hb, w, xs⟩ n0 g0 hi ⟨_, hxl, hw, hO, hX⟩
 simp only at hxl hw hX hO
 have hrb : ∀ {H' : Hp}, Gr (hpO us H) H' → H' j = some (.row Tbl row) := fun g => g.blk ((hpO_out hj).1.trans hrow)
 refine s_lt (fun h1 => ?_) (fun h1 => ?_)
 ·obtain ⟨u, hu⟩ := get_lt (l := us) (k := i) (by omega)
  obtain ⟨d, hd'⟩ := get_lt (l := es) (k := i) (by omega)
  have hdm := hd d (List.mem_of_getElem? hd')
  have hown := hO.own i u (bx d) hu (bxx_get hd')
  have hbl := bx_len d
  refine ⟨i, rfl, by omega, ⟨_, hrb hw.1⟩, ?_⟩
  refine ⟨_, _, _, _, hrb hw.1, hr2 i u hu, rfl, ?_⟩
  refine s_blk (id := 6) (fun e' H2 => e'.ds = [] ∧ ∃ x, Gw Tb Hb H2 u x (bx d) (bx (d ++ markL (-1 - (i : Int)) 16)) ∧ Has e' [(0, .slc j 0 us.length none), (5, w), (6, .int .i64 i), (7, x)]) ?_ ?_
  ·refine s_loop 16 (fun k (s : Hp × AV) => k ≤ 16 ∧ Gw Tb Hb s.1 u s.2 (bx d) (bx (d ++ markL (-1 - (i : Int)) k))) (fun k s => [(0, .slc j 0 us.length none), (5, w), (6, .int .i64 i), (7, s.2), (8, .int .i64 k)]) (fun _ s => s.1) (Hb, u)
    ⟨Nat.zero_le _, by rw [show markL (-1 - (i : Int)) 0 = [] from rfl, List.append_nil]; exact Gw.start hown⟩ rfl rfl ⟨rfl, rfl, rfl, rfl, rfl, trivial⟩ (fun k s hI => hI.1) ?_
   rintro k ⟨H2, x⟩ n1 g1 hk ⟨_, hst⟩
   simp only at hst
   refine s_lt (fun h2 => ?_) (fun h2 => ?_)
   ·refine s_64 (by omega) (by omega) ?_
    refine s_i (s_i (s_i (s_i ?_)))
    refine ⟨_, rfl, fun tb htb => ?_⟩
    refine ⟨bx [mk8 (-1 - (i : Int)) k], ⟨_, _, Hp.set_same _ _ _, Nat.le_refl _, rfl⟩, ?_⟩
    have hml := markL_len (-1 - (i : Int)) k
    refine Gw.app (hst.new htb.1 _) (by simp) (bx_one _) (bx_flat _) (by rw [bx_len, bx_len, List.length_append]; unfold capMax; simp; omega) (by rw [bx_len, bx_len, List.length_append]; unfold capMax; simp; omega) fun v' H3 ha => ?_
    refine s_nat (k + 1) (by omega) (by omega) ?_
    refine ⟨(H3, v'), by omega, ⟨by omega, ?_⟩, rfl, rfl, rfl, rfl, rfl, rfl, rfl, trivial⟩
    show Gw Tb Hb H3 u v' _ _
    rw [markL_succ, ← List.append_assoc, bx_app]; exact ha
   ·obtain rfl : k = 16 := by omega
    exact ⟨rfl, x, hst, rfl, rfl, rfl, rfl, trivial⟩
  ·rintro e' H2 ⟨hd2, x, hg, hs2⟩
   obtain ⟨n1, g1, rfl⟩ := hs2.out hd2
   clear hs2 hd2
   have hml := markL_len (-1 - (i : Int)) 16
   have hbl2 : (bx (d ++ markL (-1 - (i : Int)) 16)).length = d.length + 16 := by rw [bx_len, List.length_append, hml]
   have ap : ∀ (a : Nat) (v : AV) (b : Nat), us[a]? = some v → blkOf v = some b → a ≠ i → blkOf u ≠ some b := fun a v b h1 h2 h3 h4 => h3 (hO.apart a i v u b h1 hu h2 h4)
   obtain ⟨c, crow, q, rfl, hc2, hc3, hc4⟩ : ∃ c crow q, x = .slc c 0 (d.length + 16) q ∧ H2 c = some (.row Tb crow) ∧ (∀ (v : AV) (b : Nat), us[b]? = some v → blkOf v = some c → b = i) ∧ ∀ (q : Nat) (s : Int), (d ++ markL (-1 - (i : Int)) 16)[q]? = some s → crow[0 + q]? = some (eb s) := by
    rcases hg.x_ with ⟨_, _, h⟩ | ⟨c, r, h2, h3, h4, h5, h6⟩ | ⟨b, rest, h2, h3, h4, h5⟩
    ·rw [h] at hbl2; simp at hbl2
    ·rw [hbl2] at h2 h5
     refine ⟨c, r, none, h2, h4, fun v b hv hb => ?_, fun q s hq => ?_⟩
     ·have := hO.used (List.mem_of_getElem? hv) hb
      rw [h3] at this; cases this
     ·have hql := (List.getElem?_eq_some_iff.1 hq).1
      rw [List.length_append, hml] at hql
      have := bx_get hq
      rw [← h5, List.getElem?_take_of_lt hql] at this
      rw [Nat.zero_add]; exact this
    ·rw [hbl2] at h3
     refine ⟨b, _, _, h3, h4, fun v b' hv hb => ?_, fun q s hq => ?_⟩
     ·exact hO.apart b' i v u b hv hu hb (by rw [h2]; rfl)
     ·rw [Nat.zero_add]; exact bx_get2 hq
   have hwk : Acc Tbl (hpO us H) H2 w (one xs) := by
    refine Acc.same hw ⟨fun x hx => ?_, fun x hx => hg.us x (hw.1.u x hx)⟩ fun b hb hbu => hg.fr b hbu fun e2 => ?_
    ·rw [hg.fr x (hw.1.u x hx) ((hpO_in hx).1 u (List.mem_of_getElem? hu))]; exact hw.1.m x hx
    ·rcases hown with ⟨rfl, _⟩ | ⟨b', rest, rfl, h2⟩
     ·cases e2
     ·cases e2; exact noBlk hw h2 hb
   refine ⟨_, rfl, fun tb htb => ?_⟩
   refine ⟨one [_], ⟨_, _, Hp.set_same _ _ _, Nat.le_refl _, rfl⟩, ?_⟩
   refine Acc.app (hwk.set htb.1 _) (fun cs hcs => by rw [List.mem_singleton.1 hcs]; rfl) (fun cs hcs => by rw [List.mem_singleton.1 hcs]; rfl) (by rw [one_len, one_len]; unfold capMax; simp; omega) (by rw [one_len, one_len]; unfold capMax; simp; omega) fun w' H3 ha hfr hu3 => ?_
   refine s_nat (i + 1) (by omega) (by omega) ?_
   have hfr2 : ∀ y, H2.u y = true → blkOf w ≠ some y → H3 y = H2 y := fun y hy hb => by
    have hne : y ≠ tb := ne_of_u hy htb.1
    rw [hfr y (by rw [Hp.set_u, hy]; simp) hb, Hp.set_ne hne]
   have hu32 : ∀ y, H2.u y = true → H3.u y = true := fun y hy => hu3 y (by rw [Hp.set_u, hy]; simp)
   have rowB : ∀ {y : Nat} {r : List (List AV)}, H2 y = some (.row Tb r) → H3 y = some (.row Tb r) := fun hy => (hfr2 _ (Hp.used hy) (noBlk hwk hy)).trans hy
   have hO3 : OwnCC Tb H3 us (bxx es) := by
    refine ⟨ho.len, fun a v dd hv hdd => ?_, ho.apart⟩
    by_cases ea : a = i
    ·subst ea
     rw [hu] at hv; cases hv
     rw [bxx_get hd'] at hdd; cases hdd
     exact OwnC.row (fun b r _ hb => rowB hb) hg.own
    ·exact OwnC.row (fun b r hb hbu => rowB ((hg.fr b (Hp.used hbu) (ap a v b hv hb ea)).trans hbu)) (hO.own a v dd hv hdd)
   refine ⟨(H3, w', xs ++ [.slc c 0 (d.length + 16) q]), by omega, ⟨by omega, by simp [hxl], ?_, hO3, fun a y d2 hy hd2 => ?_⟩, rfl, rfl, rfl, rfl, rfl, trivial⟩
   ·show Acc Tbl (hpO us H) H3 w' (one (xs ++ _))
    rw [one, List.map_append]; exact ha
   ·show XOK H3 us a d2 y
    have hy' : (xs ++ [.slc c 0 (d.length + 16) q])[a]? = some y := hy
    rcases Nat.lt_trichotomy a i with h | h | h
    ·rw [List.getElem?_append_left (by omega)] at hy'
     obtain ⟨c2, row2, q2, rfl, q1, q3, q4⟩ := hX a y d2 hy' hd2
     have hne : blkOf u ≠ some c2 := fun e2 => by have := q3 u i hu e2; omega
     have q5 : H2 c2 = some (.row Tb row2) := (hg.fr c2 (Hp.used q1) hne).trans q1
     exact ⟨c2, row2, q2, rfl, rowB q5, q3, q4⟩
    ·subst h
     rw [List.getElem?_append_right (by omega), hxl, Nat.sub_self] at hy'
     cases hy'
     rw [hd'] at hd2; cases hd2
     exact ⟨c, crow, q, rfl, rowB hc2, hc3, hc4⟩
    ·rw [List.getElem?_eq_none (by simp; omega)] at hy'; cases hy'
 ·obtain rfl : i = us.length := by omega
  exact hQ _ _ w xs rfl ⟨rfl, rfl, trivial⟩ hxl hw (hpO_fr hw.1 fun u hu b hb => hO.used hu hb) hO hX
theorem ownT3 (us xs : List AV) (ds : List (List Int)) (H1 H : Hp) (j : Nat) (w : AV) (hr : Row1 H j us) (ho : OwnCC Tb H us (bxx (markAll ds))) (hw : Acc Tbl H1 H w (one xs)) (hxl : xs.length = us.length) (hX : ∀ (a : Nat) (x : AV) (d : List Int), xs[a]? = some x → (markAll ds)[a]? = some d → XOK H us a d x)
  (hlen : us.length ≤ 1000000) (hd : ∀ d ∈ ds, d.length ≤ 1000000000) (hdl : ds.length = us.length) (e : Env) (hds : e.ds = [])
  (hs : Has e [(0, .slc j 0 us.length none), (5, w), (9, .int .i64 (0 : Nat))]) (Q : Xit → Env → Hp → Prop) (hQ : ∀ e', e'.ds = [] → Q (.exit 8) e' H) :
  LCode Tryz.prog false (.loop A_lexiconref00_ownBytes_27) Q e H := by
 refine s_loop us.length (fun i (_ : Unit) => i ≤ us.length) (fun i _ => [(0, .slc j 0 us.length none), (5, w), (9, .int .i64 i)]) (fun _ _ => H) () (Nat.zero_le _) rfl hds hs (fun k s hI => hI) ?_
 intro i _ n0 g0 hi _
 refine s_lt (fun h1 => ?_) (fun h1 => hQ _ rfl)
 obtain ⟨u, hu⟩ := get_lt (l := us) (k := i) (by omega)
 obtain ⟨x, hx⟩ := get_lt (l := xs) (k := i) (by omega)
 obtain ⟨d, hd'⟩ := get_lt (l := ds) (k := i) (by omega)
 have hdm := hd d (List.mem_of_getElem? hd')
 have hm : (markAll ds)[i]? = some (markL i d.length) := by
  rw [markAll, List.getElem?_map, List.getElem?_range (by omega)]; simp [hd']
 have hml := markL_len i d.length
 obtain ⟨row, hr1, hr2⟩ := hr.row
 have hru := hr2 i u hu
 obtain ⟨c, crow, q, rfl, hc1, _, hc3⟩ := hX i x _ hx hm
 obtain ⟨jw, wrow, rfl, _, hw1, hw2⟩ := hw.get (one_get hx)
 rw [hml] at hw2
 have hol : (one xs).length = us.length := by rw [one_len, hxl]
 refine ⟨i, rfl, by omega, ⟨_, hr1⟩, ?_⟩
 refine ⟨_, _, _, _, hr1, hru, rfl, ?_⟩
 have rd : ∀ {k : Nat}, k < d.length → ∃ b urow q, u = .slc b 0 d.length q ∧ H b = some (.row Tb urow) ∧ urow[0 + k]? = some (eb (mk8 i k)) := fun {k} hk => by
  rcases ho.own i u _ hu (bxx_get hm) with ⟨_, h⟩ | ⟨b, rest, h, hb⟩
  ·have : d.length = 0 := by rw [← hml, ← bx_len, h]; rfl
   omega
  ·rw [bx_len, hml] at h
   exact ⟨b, _, _, h, hb, by rw [Nat.zero_add]; exact bx_get2 (markL_get hk)⟩
 have xr1 : ∀ {k : Nat}, k < d.length → crow[0 + k]? = some (eb (mk8 i k)) := fun {k} hk => hc3 k _ (by rw [List.getElem?_append_left (by omega)]; exact markL_get hk)
 have xr2 : ∀ {k : Nat}, k < 16 → crow[0 + (d.length + k)]? = some (eb (mk8 (-1 - (i : Int)) k)) := fun {k} hk => hc3 _ _ (by rw [List.getElem?_append_right (by omega), hml, Nat.add_sub_cancel_left]; exact markL_get hk)
 have go : ∀ (e : Env) (Q : Xit → Env → Hp → Prop), e.ds = [] → Has e [(0, .slc j 0 us.length none), (5, .slc jw 0 (one xs).length none), (9, .int .i64 i), (10, .int .i64 d.length), (11, .int .i64 (0 : Nat))] → (∀ e', e'.ds = [] → Has e' [(0, .slc j 0 us.length none), (5, .slc jw 0 (one xs).length none), (9, .int .i64 i), (10, .int .i64 d.length)] → Q (.exit 10) e' H) →
   LCode Tryz.prog false (.loop A_lexiconref00_ownBytes_21) Q e H := by
  intro e Q hd0 hs0 hQ
  refine s_loop d.length (fun k (_ : Unit) => k ≤ d.length) (fun k _ => [(0, .slc j 0 us.length none), (5, .slc jw 0 (one xs).length none), (9, .int .i64 i), (10, .int .i64 d.length), (11, .int .i64 k)]) (fun _ _ => H) () (Nat.zero_le _) rfl hd0 hs0 (fun k s hI => hI) ?_
  intro k _ n1 g1 hk _
  refine s_lt (fun h2 => ?_) (fun h2 => hQ _ rfl ⟨rfl, rfl, rfl, rfl, trivial⟩)
  obtain ⟨b, urow, q2, rfl, hb1, hb2⟩ := rd (k := k) (by omega)
  refine s_blk (id := 11) (fun e' h' => h' = H ∧ e'.ds = [] ∧ Has e' [(0, .slc j 0 us.length none), (5, .slc jw 0 (one xs).length none), (9, .int .i64 i), (10, .int .i64 d.length), (11, .int .i64 k)]) ?_ ?_
  ·refine ⟨i, rfl, by omega, ⟨_, hr1⟩, ?_⟩
   refine ⟨_, _, _, _, hr1, hru, rfl, ?_⟩
   refine ⟨k, rfl, by omega, ⟨_, hb1⟩, ?_⟩
   refine ⟨_, _, _, _, hb1, hb2, rfl, ?_⟩
   refine s_i (s_i (s_i (s_i ?_)))
   refine s_ne (fun h3 => absurd rfl h3) (fun _ => ?_)
   refine ⟨i, rfl, by omega, ⟨_, hw1⟩, ?_⟩
   refine ⟨_, _, _, _, hw1, hw2, rfl, ?_⟩
   refine ⟨k, rfl, by omega, ⟨_, hc1⟩, ?_⟩
   refine ⟨_, _, _, _, hc1, xr1 (by omega), rfl, ?_⟩
   refine s_i (s_i (s_i (s_i ?_)))
   refine s_ne (fun h3 => absurd rfl h3) (fun _ => ?_)
   exact ⟨rfl, rfl, rfl, rfl, rfl, rfl, rfl, trivial⟩
  ·rintro e' h' ⟨rfl, hd3, hs3⟩
   obtain ⟨n3, g3, rfl⟩ := hs3.out hd3
   refine s_nat (k + 1) (by omega) (by omega) ?_
   exact ⟨(), by omega, by omega, rfl, rfl, rfl, rfl, rfl, rfl, rfl, trivial⟩
 have go2 : ∀ (e : Env) (Q : Xit → Env → Hp → Prop), e.ds = [] → Has e [(0, .slc j 0 us.length none), (5, .slc jw 0 (one xs).length none), (9, .int .i64 i), (10, .int .i64 d.length), (12, .int .i64 (0 : Nat))] → (∀ e', e'.ds = [] → Has e' [(0, .slc j 0 us.length none), (5, .slc jw 0 (one xs).length none), (9, .int .i64 i)] → Q (.exit 12) e' H) →
   LCode Tryz.prog false (.loop A_lexiconref00_ownBytes_25) Q e H := by
  intro e Q hd0 hs0 hQ
  refine s_loop 16 (fun k (_ : Unit) => k ≤ 16) (fun k _ => [(0, .slc j 0 us.length none), (5, .slc jw 0 (one xs).length none), (9, .int .i64 i), (10, .int .i64 d.length), (12, .int .i64 k)]) (fun _ _ => H) () (Nat.zero_le _) rfl hd0 hs0 (fun k s hI => hI) ?_
  intro k _ n1 g1 hk _
  refine s_lt (fun h2 => ?_) (fun h2 => hQ _ rfl ⟨rfl, rfl, rfl, trivial⟩)
  refine s_blk (id := 13) (fun e' h' => h' = H ∧ e'.ds = [] ∧ Has e' [(0, .slc j 0 us.length none), (5, .slc jw 0 (one xs).length none), (9, .int .i64 i), (10, .int .i64 d.length), (12, .int .i64 k)]) ?_ ?_
  ·refine ⟨i, rfl, by omega, ⟨_, hw1⟩, ?_⟩
   refine ⟨_, _, _, _, hw1, hw2, rfl, ?_⟩
   refine s_nat (d.length + k) (by omega) (by omega) ?_
   refine ⟨d.length + k, rfl, by omega, ⟨_, hc1⟩, ?_⟩
   refine ⟨_, _, _, _, hc1, xr2 (by omega), rfl, ?_⟩
   refine s_64 (by omega) (by omega) ?_
   refine s_i (s_i (s_i (s_i ?_)))
   refine s_ne (fun h3 => absurd rfl h3) (fun _ => ?_)
   exact ⟨rfl, rfl, rfl, rfl, rfl, rfl, rfl, trivial⟩
  ·rintro e' h' ⟨rfl, hd3, hs3⟩
   obtain ⟨n3, g3, rfl⟩ := hs3.out hd3
   refine s_nat (k + 1) (by omega) (by omega) ?_
   exact ⟨(), by omega, by omega, rfl, rfl, rfl, rfl, rfl, rfl, rfl, trivial⟩
 have fin : ∀ (e : Env) (Q : Xit → Env → Hp → Prop), e.ds = [] → Has e [(0, .slc j 0 us.length none), (5, .slc jw 0 (one xs).length none), (9, .int .i64 i), (10, .int .i64 d.length)] →
   (∀ e', e'.ds = [] → Has e' [(0, .slc j 0 us.length none), (5, .slc jw 0 (one xs).length none), (9, .int .i64 i)] → Q .normal e' H) →
   LCode Tryz.prog false (.seq (.seq (.ops [o_ 11 (.mov (i_ 0))]) (.block 10 (.loop A_lexiconref00_ownBytes_21))) (.seq (.ops [o_ 12 (.mov (i_ 0))]) (.block 12 (.loop A_lexiconref00_ownBytes_25)))) Q e H := by
  intro e Q hd hs hQ
  obtain ⟨n1, g1, rfl⟩ := hs.out hd
  refine s_blk (id := 10) (fun e' H' => H' = H ∧ e'.ds = [] ∧ Has e' [(0, .slc j 0 us.length none), (5, .slc jw 0 (one xs).length none), (9, .int .i64 i), (10, .int .i64 d.length)]) ?_ ?_
  ·exact go _ _ rfl ⟨rfl, rfl, rfl, rfl, rfl, trivial⟩ fun e' h1 h2 => ⟨rfl, h1, h2⟩
  ·rintro e' H' ⟨rfl, hd2, hs2⟩
   obtain ⟨n2, g2, rfl⟩ := hs2.out hd2
   refine s_blk (id := 12) (fun e' h' => h' = H' ∧ e'.ds = [] ∧ Has e' [(0, .slc j 0 us.length none), (5, .slc jw 0 (one xs).length none), (9, .int .i64 i)]) ?_ ?_
   ·exact go2 _ _ rfl ⟨rfl, rfl, rfl, rfl, rfl, trivial⟩ fun e' h1 h2 => ⟨rfl, h1, h2⟩
   ·rintro e' h' ⟨rfl, hd3, hs3⟩
    exact hQ e' hd3 hs3
 rcases ho.own i u _ hu (bxx_get hm) with ⟨rfl, h⟩ | ⟨b, rest, rfl, hb⟩
 ·have h0 := congrArg List.length h
  rw [bx_len, hml] at h0
  have h0 : d.length = 0 := h0
  refine fin _ _ rfl ⟨rfl, rfl, rfl, by rw [h0]; rfl, trivial⟩ fun e' hd3 hs3 => ?_
  obtain ⟨n3, g3, rfl⟩ := hs3.out hd3
  refine s_nat (i + 1) (by omega) (by omega) ?_
  exact ⟨(), by omega, by omega, rfl, rfl, rfl, rfl, rfl, trivial⟩
 ·refine fin _ _ rfl ⟨rfl, rfl, rfl, by rw [bx_len, hml]; rfl, trivial⟩ fun e' hd3 hs3 => ?_
  obtain ⟨n3, g3, rfl⟩ := hs3.out hd3
  refine s_nat (i + 1) (by omega) (by omega) ?_
  exact ⟨(), by omega, by omega, rfl, rfl, rfl, rfl, rfl, trivial⟩
theorem markAll_len (ds : List (List Int)) : (markAll ds).length = ds.length := by rw [markAll, List.length_map, List.length_range]
theorem ownBytes_L (us : List AV) (ds : List (List Int)) (h0 : Hp) (j : Nat) (hr : Row1 h0 j us) (hj : ∀ u ∈ us, blkOf u ≠ some j) (ho : OwnCC Tb h0 us (bxx ds)) (hlen : us.length ≤ 1000000) (hd : ∀ d ∈ ds, d.length ≤ 1000000000) :
  CallL Tryz.prog F_lexiconref00_ownBytes [.slc j 0 us.length none] h0 fun r H => r = .ret (.bool true) ∧ Fr us h0 H := by
 have hdl : ds.length = us.length := by have := ho.len; rwa [List.length_map] at this
 refine K_lexiconref00_ownBytes (md := false) ?_
 refine s_blk (id := 0) (fun e' H => e'.ds = [] ∧ Has e' [(0, .slc j 0 us.length none)] ∧ Fr us h0 H ∧ OwnCC Tb H us (bxx (markAll ds))) ?_ ?_
 ·exact ownT1 us ds h0 h0 j hr hj ho hlen hd _ rfl rfl ⟨rfl, rfl, trivial⟩ _ fun e' H' h1 h2 h3 h4 => ⟨h1, h2, h3, h4⟩
 rintro e' H1 ⟨hd1, hs1, hF1, hO1⟩
 obtain ⟨n1, g1, rfl⟩ := hs1.out hd1
 clear hd1 hs1
 obtain ⟨row, hrow, hr2⟩ := hr.row
 have hrow1 := (hF1.m j (Hp.used hrow) hj).trans hrow
 have hd2 : ∀ d ∈ markAll ds, d.length ≤ 1000000000 := fun d hdm => by
  obtain ⟨i, hi⟩ := List.getElem?_of_mem hdm
  have hil : i < ds.length := by have := (List.getElem?_eq_some_iff.1 hi).1; rwa [markAll_len] at this
  rw [markAll, List.getElem?_map, List.getElem?_range hil] at hi
  obtain ⟨d0, hd0⟩ := get_lt hil
  simp [hd0] at hi
  rw [← hi, markL_len]; exact hd d0 (List.mem_of_getElem? hd0)
 refine s_blk (id := 4) (fun e' H => e'.ds = [] ∧ ∃ w xs, Has e' [(0, .slc j 0 us.length none), (5, w)] ∧ xs.length = us.length ∧ Acc Tbl (hpO us H1) H w (one xs) ∧ Fr us H1 H ∧ OwnCC Tb H us (bxx (markAll ds)) ∧ ∀ (a : Nat) (x : AV) (d : List Int), xs[a]? = some x → (markAll ds)[a]? = some d → XOK H us a d x) ?_ ?_
 ·exact ownT2 us (markAll ds) H1 j row hrow1 hr2 hj hO1 hlen hd2 _ rfl ⟨rfl, rfl, rfl, trivial⟩ _ fun e' H' w xs h1 h2 h3 h4 h5 h6 h7 => ⟨h1, w, xs, h2, h3, h4, h5, h6, h7⟩
 rintro e' H2 ⟨hd3, w, xs, hs3, hxl, hw, hF2, hO2, hX⟩
 obtain ⟨n2, g2, rfl⟩ := hs3.out hd3
 clear hd3 hs3
 refine s_blk (id := 8) (fun e' H => e'.ds = [] ∧ H = H2) ?_ ?_
 ·exact ownT3 us xs ds (hpO us H1) H2 j w ⟨row, (hF2.m j (Hp.used hrow1) hj).trans hrow1, hr2⟩ hO2 hw hxl hX hlen hd hdl _ rfl ⟨rfl, rfl, rfl, trivial⟩ _ fun e' h1 => ⟨h1, rfl⟩
 ·rintro e' H ⟨hd4, rfl⟩
  exact ⟨hd4, rfl, Fr.trans hF1 hF2⟩
end Go.Proofs.YtldbbnkacahndabGreatDoor
