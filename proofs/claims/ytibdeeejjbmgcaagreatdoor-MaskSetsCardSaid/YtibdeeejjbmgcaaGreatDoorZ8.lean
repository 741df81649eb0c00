/- Contracts of functions of the given program, in the logic L: texts put together; no conditions. -/
import Derived.Test.YtibdeeejjbmgcaaGreatDoorZ7
import Derived.Test.YtibdeeejjbmgcaaGreatDoorZ3
import Derived.Sort.Walk0
/-
  Contracts: the book of lists of texts: each has memory of its own.
-/
namespace Go.Proofs.YtibdeeejjbmgcaaGreatDoor
open Go.L

def markL (i : Int) (n : Nat) : List Str := (List.range n).map fun k : Nat => markS i k
def markAll (ds : List (List Str)) : List (List Str) := (List.range ds.length).map fun i : Nat => markL i ((ds[i]?).getD []).length
theorem markL_len (i : Int) (n : Nat) : (markL i n).length = n := by rw [markL, List.length_map, List.length_range]
theorem markL_get {i : Int} {n k : Nat} (h : k < n) : (markL i n)[k]? = some (markS i k) := by rw [markL, List.getElem?_map, List.getElem?_range h]; rfl
theorem markL_succ (i : Int) (n : Nat) : markL i (n + 1) = markL i n ++ [markS i (n : Nat)] := by rw [markL, List.range_succ, List.map_append]; rfl
abbrev txx (ds : List (List Str)) : List (List (List AV)) := ds.map tx
abbrev one (us : List AV) : List (List AV) := us.map fun u => [u]

theorem txx_get {ds : List (List Str)} {i : Nat} {d : List Str} (h : ds[i]? = some d) : (txx ds)[i]? = some (tx d) := by rw [List.getElem?_map, h]; rfl
theorem one_get {us : List AV} {i : Nat} {u : AV} (h : us[i]? = some u) : (one us)[i]? = some [u] := by rw [List.getElem?_map, h]; rfl
theorem one_len (us : List AV) : (one us).length = us.length := List.length_map _

/-- A row of values that is a list of one's own. -/
structure Row1 (H : Hp) (j : Nat) (us : List AV) : Prop where
  row : ∃ row, H j = some (.row Tl row) ∧ ∀ (i : Nat) (u : AV), us[i]? = some u → row[0 + i]? = some [u]

theorem ownT1 (us : List AV) (ds : List (List Str)) (h0 H : Hp) (j : Nat) (hr : Row1 h0 j us) (hj : ∀ u ∈ us, blkOf u ≠ some j) (ho : OwnLL Ts h0 us (txx ds)) (hlen : us.length ≤ 1000) (hd : ∀ d ∈ ds, d.length ≤ 1000000) (e : Env) (hh : H = h0) (hds : e.ds = [])
    (hs : Has e [(0, .slc j 0 us.length none), (3, .int .i64 (0 : Nat))]) (Q : Xit → Env → Hp → Prop)
    (hQ : ∀ e' H', e'.ds = [] → Has e' [(0, .slc j 0 us.length none)] → Fr us h0 H' → OwnLL Ts H' us (txx (markAll ds)) → Q (.exit 0) e' H') :
    LCode Tryz.prog false (.loop A_lexiconref00_ownTexts_10) Q e H := by
  subst hh
  have hdl : ds.length = us.length := by have := ho.len; rwa [List.length_map] at this
  have rd : ∀ {H' : Hp}, Fr us H H' → Row1 H' j us := fun f => by
    obtain ⟨row, h1, h2⟩ := hr.row
    exact ⟨row, (f.m j (Hp.used h1) hj).trans h1, h2⟩
  refine s_loop us.length (fun i (s : Hp × List (List Str)) => i ≤ us.length ∧ Fr us H s.1 ∧ OwnLL Ts s.1 us (txx s.2) ∧ (∀ a, i ≤ a → s.2[a]? = ds[a]?) ∧ ∀ (a : Nat) (d : List Str), a < i → ds[a]? = some d → s.2[a]? = some (markL a d.length))
    (fun i _ => [(0, .slc j 0 us.length none), (3, .int .i64 i)]) (fun _ s => s.1) (H, ds) ⟨Nat.zero_le _, Fr.refl _ _, ho, fun _ _ => rfl, fun a d ha => by omega⟩ rfl hds hs (fun k s hI => hI.1) ?_
  rintro i ⟨H', es⟩ n0 g0 hi ⟨_, hF, hO, hE1, hE2⟩
  simp only at hF hO hE1 hE2
  have hel : es.length = us.length := by have := hO.len; rwa [List.length_map] at this
  refine s_lt (fun h1 => ?_) (fun h1 => ?_)
  · obtain ⟨u, hu⟩ := get_lt (l := us) (k := i) (by omega)
    obtain ⟨d, hd'⟩ := get_lt (l := ds) (k := i) (by omega)
    have hdm := hd d (List.mem_of_getElem? hd')
    refine s_loop d.length (fun k (s : Hp × List (List Str)) => k ≤ d.length ∧ Fr us H s.1 ∧ OwnLL Ts s.1 us (txx s.2) ∧ (∀ a, a ≠ i → s.2[a]? = es[a]?) ∧ ∃ x, s.2[i]? = some x ∧ x.length = d.length ∧ x.take k = markL i k)
      (fun k _ => [(0, .slc j 0 us.length none), (3, .int .i64 i), (4, .int .i64 k)]) (fun _ s => s.1) (H', es) ⟨Nat.zero_le _, hF, hO, fun _ _ => rfl, d, by rw [hE1 i (Nat.le_refl _), hd'], rfl, rfl⟩ rfl rfl ⟨rfl, rfl, rfl, trivial⟩ (fun k s hI => hI.1) ?_
    rintro k ⟨H2, fs⟩ n1 g1 hk ⟨_, hF2, hO2, hE3, x, hx, hxl, hxt⟩
    simp only at hF2 hO2 hE3 hx
    obtain ⟨row, hr1, hr2⟩ := (rd hF2).row
    have hru := hr2 i u hu
    refine ⟨i, rfl, by omega, ⟨_, hr1⟩, ?_⟩
    refine ⟨_, _, _, _, hr1, hru, rfl, ?_⟩
    have fin : d.length ≤ k → i + 1 ≤ us.length ∧ Fr us H H2 ∧ OwnLL Ts H2 us (txx fs) ∧ (∀ a, i + 1 ≤ a → fs[a]? = ds[a]?) ∧ ∀ (a : Nat) (d : List Str), a < i + 1 → ds[a]? = some d → fs[a]? = some (markL a d.length) := fun h2 => by
      obtain rfl : k = d.length := by omega
      refine ⟨by omega, hF2, hO2, fun a ha => (hE3 a (by omega)).trans (hE1 a (by omega)), fun a d' ha hda => ?_⟩
      by_cases e : a = i
      · subst e
        rw [hd'] at hda; cases hda
        rw [hx, ← hxt, List.take_of_length_le (by omega)]
      · exact (hE3 a e).trans (hE2 a d' (by omega) hda)
    rcases hO2.own i u (tx x) hu (txx_get hx) with ⟨rfl, h0⟩ | ⟨b, rest, rfl, hb⟩
    · have h00 : x = [] := List.map_eq_nil_iff.1 h0
      subst h00
      refine s_lt (fun h2 => by omega) (fun h2 => ?_)
      refine s_nat (i + 1) (by omega) (by omega) ?_
      exact ⟨(H2, fs), by omega, fin (by simp at hxl; omega), rfl, rfl, rfl, rfl, trivial⟩
    have htx := tx_len x
    refine s_lt (fun h2 => ?_) (fun h2 => ?_)
    · obtain ⟨y, hy⟩ := get_lt (l := x) (k := k) (by omega)
      clear hb rest
      obtain ⟨b', rest, hub, hb, hO3⟩ := hO2.write (c := el (markS i k)) (txx_get hx) (tx_get hy)
      rw [hu] at hub; cases hub
      refine .inr (.inl ?_)
      refine ⟨i, rfl, by omega, ⟨_, hr1⟩, ?_⟩
      refine ⟨_, _, _, _, hr1, hru, rfl, ?_⟩
      refine ⟨.str (markS i k), PureL.at (mark_L i k (by omega) (by omega)) _, ?_⟩
      refine ⟨k, rfl, by omega, ⟨_, hb⟩, ?_⟩
      refine ⟨_, _, _, hb, (by rw [Nat.zero_add]; exact tx_get2 hy), rfl, rfl, rfl, Nat.le_refl _, ?_⟩
      refine s_nat (k + 1) (by omega) (by omega) ?_
      refine ⟨(_, fs.set i (x.set k (markS i k))), by omega, ⟨by omega, hF2.set (List.mem_of_getElem? hu) rfl, ?_, fun a ha => ?_, x.set k (markS i k), ?_, by rw [List.length_set, hxl], ?_⟩, rfl, rfl, rfl, rfl, rfl, trivial⟩
      · have e : txx (fs.set i (x.set k (markS i k))) = (txx fs).set i ((tx x).set k (el (markS i k))) := by
          simp only [txx, List.map_set]
        show OwnLL _ _ us (txx (fs.set i (x.set k (markS i k))))
        rw [e]; exact hO3
      · show (fs.set i _)[a]? = _
        rw [List.getElem?_set, if_neg (Ne.symm ha)]; exact hE3 a ha
      · show (fs.set i _)[i]? = _
        rw [List.getElem?_set, if_pos rfl, if_pos (List.getElem?_eq_some_iff.1 hx).1]
      · rw [markL_succ, ← hxt, List.take_succ_of_get (x := markS i k) (by rw [List.getElem?_set, if_pos rfl, if_pos (by omega)]), List.take_set_of_le (Nat.le_refl _)]
    · refine s_nat (i + 1) (by omega) (by omega) ?_
      exact ⟨(H2, fs), by omega, fin (by omega), rfl, rfl, rfl, rfl, trivial⟩
  · obtain rfl : i = us.length := by omega
    refine hQ _ _ rfl ⟨rfl, trivial⟩ hF ?_
    have e : es = markAll ds := by
      refine List.ext_getElem? fun a => ?_
      rcases Nat.lt_or_ge a ds.length with ha | ha
      · obtain ⟨d, hda⟩ := get_lt (l := ds) (k := a) ha
        rw [hE2 a d (by omega) hda, markAll, List.getElem?_map, List.getElem?_range ha]
        simp [hda]
      · rw [List.getElem?_eq_none (by omega), List.getElem?_eq_none (by rw [markAll, List.length_map, List.length_range]; exact ha)]
    rw [← e]; exact hO

theorem Ts_ne_Tl : Ts ≠ Tl := by decide
/-- A list that has grown by sixteen marks. -/
def XOK (H : Hp) (w : AV) (a : Nat) (d : List Str) (x : AV) : Prop := ∃ c row, x = .slc c 0 (d.length + 16) none ∧ H c = some (.row Ts row) ∧ blkOf w ≠ some c ∧ ∀ (q : Nat) (s : Str), (d ++ markL (-1 - (a : Int)) 16)[q]? = some s → row[0 + q]? = some (el s)
theorem noBlk {h H : Hp} {w : AV} {es : List (List AV)} (a : Acc Tl h H w es) {c : Nat} {row : List (List AV)} (hc : H c = some (.row Ts row)) : blkOf w ≠ some c := fun e => by
  rcases a.2 with ⟨rfl, _⟩ | ⟨j, r, rfl, _, h2, _⟩
  · cases e
  · cases e
    rw [h2] at hc
    injection hc with hc
    injection hc with hc _
    exact Ts_ne_Tl hc.symm

theorem ownT2 (us : List AV) (es : List (List Str)) (H : Hp) (j : Nat) (hr : Row1 H j us) (ho : OwnLL Ts H us (txx es)) (hlen : us.length ≤ 1000) (hd : ∀ d ∈ es, d.length ≤ 1000000) (e : Env) (hds : e.ds = [])
    (hs : Has e [(0, .slc j 0 us.length none), (5, .nils), (6, .int .i64 (0 : Nat))]) (Q : Xit → Env → Hp → Prop)
    (hQ : ∀ e' H' w xs, e'.ds = [] → Has e' [(0, .slc j 0 us.length none), (5, w)] → xs.length = us.length → Acc Tl H H' w (one xs) → (∀ (a : Nat) (x : AV) (d : List Str), xs[a]? = some x → es[a]? = some d → XOK H' w a d x) → Q (.exit 4) e' H') :
    LCode Tryz.prog false (.loop A_lexiconref00_ownTexts_19) Q e H := by
  have hel : es.length = us.length := by have := ho.len; rwa [List.length_map] at this
  refine s_loop us.length (fun i (s : Hp × AV × List AV) => i ≤ us.length ∧ s.2.2.length = i ∧ Acc Tl H s.1 s.2.1 (one s.2.2) ∧ ∀ (a : Nat) (x : AV) (d : List Str), s.2.2[a]? = some x → es[a]? = some d → XOK s.1 s.2.1 a d x)
    (fun i s => [(0, .slc j 0 us.length none), (5, s.2.1), (6, .int .i64 i)]) (fun _ s => s.1) (H, .nils, []) ⟨Nat.zero_le _, rfl, Acc.nil _ _, fun a x d hx => by simp at hx⟩ rfl hds hs (fun k s hI => hI.1) ?_
  rintro i ⟨Hb, w, xs⟩ n0 g0 hi ⟨_, hxl, hw, hX⟩
  simp only at hxl hw hX
  refine s_lt (fun h1 => ?_) (fun h1 => ?_)
  · obtain ⟨u, hu⟩ := get_lt (l := us) (k := i) (by omega)
    obtain ⟨d, hd'⟩ := get_lt (l := es) (k := i) (by omega)
    have hdm := hd d (List.mem_of_getElem? hd')
    obtain ⟨row, hr1, hr2⟩ := hr.row
    have hown := (ho.own i u (tx d) hu (txx_get hd')).gr hw.1
    refine ⟨i, rfl, by omega, ⟨_, hw.1.blk hr1⟩, ?_⟩
    refine ⟨_, _, _, _, hw.1.blk hr1, hr2 i u hu, rfl, ?_⟩
    refine s_blk (id := 6) (fun e' H2 => e'.ds = [] ∧ ∃ x, Acc Ts Hb H2 x (tx (d ++ markL (-1 - (i : Int)) 16)) ∧ Has e' [(0, .slc j 0 us.length none), (5, w), (6, .int .i64 i), (7, x)]) ?_ ?_
    · refine s_loop 16 (fun k (s : Hp × AV) => k ≤ 16 ∧ Gr Hb s.1 ∧ ((k = 0 ∧ s.2 = u) ∨ (0 < k ∧ Acc Ts Hb s.1 s.2 (tx (d ++ markL (-1 - (i : Int)) k))))) (fun k s => [(0, .slc j 0 us.length none), (5, w), (6, .int .i64 i), (7, s.2), (8, .int .i64 k)]) (fun _ s => s.1) (Hb, u)
        ⟨Nat.zero_le _, Gr.refl _, .inl ⟨rfl, rfl⟩⟩ rfl rfl ⟨rfl, rfl, rfl, rfl, rfl, trivial⟩ (fun k s hI => hI.1) ?_
      rintro k ⟨H2, x⟩ n1 g1 hk ⟨_, hgr, hst⟩
      simp only at hgr hst
      refine s_lt (fun h2 => ?_) (fun h2 => ?_)
      · refine s_64 (by omega) (by omega) ?_
        refine (mark_L (-1 - (i : Int)) k (by omega) (by omega)).use ?_
        refine ⟨_, rfl, fun tb htb => ?_⟩
        refine ⟨tx [markS (-1 - (i : Int)) k], ⟨_, _, Hp.set_same _ _ _, Nat.le_refl _, rfl⟩, ?_⟩
        have hml := markL_len (-1 - (i : Int)) k
        rcases hst with ⟨rfl, rfl⟩ | ⟨hk0, hacc⟩
        · refine OwnU.app (hgr.set (hgr.new htb.1) _) hown (by simp) (tx_one _) (tx_flat _) (by rw [tx_len, tx_len]; unfold capMax; simp; omega) (by rw [tx_len, tx_len]; unfold capMax; simp; omega) fun v' H3 ha => ?_
          refine s_nat (0 + 1) (by omega) (by omega) ?_
          refine ⟨(H3, v'), by omega, ⟨by omega, ha.1, .inr ⟨by omega, ?_⟩⟩, rfl, rfl, rfl, rfl, rfl, rfl, rfl, trivial⟩
          show Acc Ts Hb H3 v' _
          rw [markL_succ, tx_app, tx_app]; exact ha
        · refine Acc.app (hacc.set htb.1 _) (tx_one _) (tx_flat _) (by rw [tx_len, tx_len, List.length_append]; unfold capMax; simp; omega) (by rw [tx_len, tx_len, List.length_append]; unfold capMax; simp; omega) fun v' H3 ha _ _ => ?_
          refine s_nat (k + 1) (by omega) (by omega) ?_
          refine ⟨(H3, v'), by omega, ⟨by omega, ha.1, .inr ⟨by omega, ?_⟩⟩, rfl, rfl, rfl, rfl, rfl, rfl, rfl, trivial⟩
          show Acc Ts Hb H3 v' _
          rw [markL_succ, ← List.append_assoc, tx_app]; exact ha
      · obtain rfl : k = 16 := by omega
        rcases hst with ⟨h3, _⟩ | ⟨_, hacc⟩
        · cases h3
        · exact ⟨rfl, x, hacc, rfl, rfl, rfl, rfl, trivial⟩
    · rintro e' H2 ⟨hd2, x, hacc, hs2⟩
      obtain ⟨n1, g1, rfl⟩ := hs2.out hd2
      clear hs2 hd2
      obtain ⟨c, crow, rfl, hc1, hc2, hc3, hc4⟩ := hacc.slc (by rw [tx_app]; intro e; have := congrArg List.length e; rw [List.length_append, tx_len, tx_len, markL_len] at this; simp at this)
      have hwk := hw.keep hacc.1
      refine ⟨_, rfl, fun tb htb => ?_⟩
      refine ⟨one [_], ⟨_, _, Hp.set_same _ _ _, Nat.le_refl _, rfl⟩, ?_⟩
      refine Acc.app (hwk.set htb.1 _) (fun cs hcs => by rw [List.mem_singleton.1 hcs]; rfl) (fun cs hcs => by rw [List.mem_singleton.1 hcs]; rfl) (by rw [one_len, one_len]; unfold capMax; simp; omega) (by rw [one_len, one_len]; unfold capMax; simp; omega) fun w' H3 ha hfr hu3 => ?_
      refine s_nat (i + 1) (by omega) (by omega) ?_
      have hfr2 : ∀ y, H2.u y = true → blkOf w ≠ some y → H3 y = H2 y := fun y hy hb => by
        have hne : y ≠ tb := ne_of_u hy htb.1
        rw [hfr y (by rw [Hp.set_u, hy]; simp) hb, Hp.set_ne hne]
      have hH3 : H3 c = some (.row Ts crow) := (hfr2 c (Hp.used hc2) (noBlk hwk hc2)).trans hc2
      have htl : (tx (d ++ markL (-1 - (i : Int)) 16)).length = d.length + 16 := by rw [tx_len, List.length_append, markL_len]
      refine ⟨(H3, w', xs ++ [.slc c 0 (tx (d ++ markL (-1 - (i : Int)) 16)).length none]), by omega, ⟨by omega, by simp [hxl], ?_, fun a y d2 hy hd2 => ?_⟩, rfl, rfl, rfl, rfl, rfl, trivial⟩
      · show Acc Tl H H3 w' (one (xs ++ _))
        rw [one, List.map_append]; exact ha
      · show XOK H3 w' a d2 y
        have hy' : (xs ++ [.slc c 0 (tx (d ++ markL (-1 - (i : Int)) 16)).length none])[a]? = some y := hy
        rcases Nat.lt_trichotomy a i with h | h | h
        · rw [List.getElem?_append_left (by omega)] at hy'
          obtain ⟨c2, row2, rfl, q1, q2, q3⟩ := hX a y d2 hy' hd2
          have q4 : H2 c2 = some (.row Ts row2) := hacc.1.blk q1
          have q5 : H3 c2 = some (.row Ts row2) := (hfr2 c2 (Hp.used q4) q2).trans q4
          exact ⟨c2, row2, rfl, q5, noBlk ha q5, q3⟩
        · subst h
          rw [List.getElem?_append_right (by omega), hxl, Nat.sub_self] at hy'
          cases hy'
          rw [hd'] at hd2; cases hd2
          refine ⟨c, crow, by rw [htl], hH3, noBlk ha hH3, fun q s hq => ?_⟩
          have hql : q < (tx (d ++ markL (-1 - (a : Int)) 16)).length := by rw [tx_len]; exact (List.getElem?_eq_some_iff.1 hq).1
          have := tx_get hq
          rw [← hc3, List.getElem?_take_of_lt hql] at this
          rw [Nat.zero_add]; exact this
        · rw [List.getElem?_eq_none (by simp; omega)] at hy'; cases hy'
  · obtain rfl : i = us.length := by omega
    exact hQ _ _ w xs rfl ⟨rfl, rfl, trivial⟩ hxl hw hX

theorem ownT3 (us xs : List AV) (ds : List (List Str)) (H1 H : Hp) (j : Nat) (w : AV) (hr : Row1 H j us) (ho : OwnLL Ts H us (txx (markAll ds))) (hw : Acc Tl H1 H w (one xs)) (hxl : xs.length = us.length) (hX : ∀ (a : Nat) (x : AV) (d : List Str), xs[a]? = some x → (markAll ds)[a]? = some d → XOK H w a d x)
    (hlen : us.length ≤ 1000) (hd : ∀ d ∈ ds, d.length ≤ 1000000) (hdl : ds.length = us.length) (e : Env) (hds : e.ds = [])
    (hs : Has e [(0, .slc j 0 us.length none), (5, w), (9, .int .i64 (0 : Nat))]) (Q : Xit → Env → Hp → Prop) (hQ : ∀ e', e'.ds = [] → Q (.exit 8) e' H) :
    LCode Tryz.prog false (.loop A_lexiconref00_ownTexts_38) Q e H := by
  refine s_loop us.length (fun i (_ : Unit) => i ≤ us.length) (fun i _ => [(0, .slc j 0 us.length none), (5, w), (9, .int .i64 i)]) (fun _ _ => H) () (Nat.zero_le _) rfl hds hs (fun k s hI => hI) ?_
  intro i _ n0 g0 hi _
  refine s_lt (fun h1 => ?_) (fun h1 => hQ _ rfl)
  obtain ⟨u, hu⟩ := get_lt (l := us) (k := i) (by omega)
  obtain ⟨x, hx⟩ := get_lt (l := xs) (k := i) (by omega)
  obtain ⟨d, hd'⟩ := get_lt (l := ds) (k := i) (by omega)
  have hdm := hd d (List.mem_of_getElem? hd')
  have hm : (markAll ds)[i]? = some (markL i d.length) := by
    rw [markAll, List.getElem?_map, List.getElem?_range (by omega)]; simp [hd']
  have hml := markL_len i d.length
  obtain ⟨row, hr1, hr2⟩ := hr.row
  have hru := hr2 i u hu
  obtain ⟨c, crow, rfl, hc1, hc2, hc3⟩ := hX i x _ hx hm
  obtain ⟨jw, wrow, rfl, _, hw1, hw2⟩ := hw.get (one_get hx)
  rw [hml] at hw2
  have hol : (one xs).length = us.length := by rw [one_len, hxl]
  refine ⟨i, rfl, by omega, ⟨_, hr1⟩, ?_⟩
  refine ⟨_, _, _, _, hr1, hru, rfl, ?_⟩
  -- what u is
  have rd : ∀ {k : Nat}, k < d.length → ∃ b urow, u = .slc b 0 d.length (some d.length) ∧ H b = some (.row Ts urow) ∧ urow[0 + k]? = some (el (markS i k)) := fun {k} hk => by
    rcases ho.own i u _ hu (txx_get hm) with ⟨_, h⟩ | ⟨b, rest, h, hb⟩
    · have : d.length = 0 := by rw [← hml, ← tx_len, h]; rfl
      omega
    · rw [tx_len, hml] at h
      exact ⟨b, _, h, hb, by rw [Nat.zero_add]; exact tx_get2 (markL_get hk)⟩
  have xr1 : ∀ {k : Nat}, k < d.length → crow[0 + k]? = some (el (markS i k)) := fun {k} hk => hc3 k _ (by rw [List.getElem?_append_left (by omega)]; exact markL_get hk)
  have xr2 : ∀ {k : Nat}, k < 16 → crow[0 + (d.length + k)]? = some (el (markS (-1 - (i : Int)) k)) := fun {k} hk => hc3 _ _ (by rw [List.getElem?_append_right (by omega), hml, Nat.add_sub_cancel_left]; exact markL_get hk)
  have go : ∀ (e : Env) (Q : Xit → Env → Hp → Prop), e.ds = [] → Has e [(0, .slc j 0 us.length none), (5, .slc jw 0 (one xs).length none), (9, .int .i64 i), (10, .int .i64 d.length), (11, .int .i64 (0 : Nat))] → (∀ e', e'.ds = [] → Has e' [(0, .slc j 0 us.length none), (5, .slc jw 0 (one xs).length none), (9, .int .i64 i), (10, .int .i64 d.length)] → Q (.exit 10) e' H) →
      LCode Tryz.prog false (.loop A_lexiconref00_ownTexts_26) Q e H := by
    intro e Q hd0 hs0 hQ
    refine s_loop d.length (fun k (_ : Unit) => k ≤ d.length) (fun k _ => [(0, .slc j 0 us.length none), (5, .slc jw 0 (one xs).length none), (9, .int .i64 i), (10, .int .i64 d.length), (11, .int .i64 k)]) (fun _ _ => H) () (Nat.zero_le _) rfl hd0 hs0 (fun k s hI => hI) ?_
    intro k _ n1 g1 hk _
    refine s_lt (fun h2 => ?_) (fun h2 => hQ _ rfl ⟨rfl, rfl, rfl, rfl, trivial⟩)
    obtain ⟨b, urow, rfl, hb1, hb2⟩ := rd (k := k) (by omega)
    refine s_blk (id := 11) (fun e' h' => h' = H ∧ e'.ds = [] ∧ Has e' [(0, .slc j 0 us.length none), (5, .slc jw 0 (one xs).length none), (9, .int .i64 i), (10, .int .i64 d.length), (11, .int .i64 k)]) ?_ ?_
    · refine .inr (.inl ?_)
      refine ⟨i, rfl, by omega, ⟨_, hr1⟩, ?_⟩
      refine ⟨_, _, _, _, hr1, hru, rfl, ?_⟩
      refine ⟨k, rfl, by omega, ⟨_, hb1⟩, ?_⟩
      refine ⟨_, _, _, _, hb1, hb2, rfl, ?_⟩
      refine ⟨.str (markS i k), PureL.at (mark_L i k (by omega) (by omega)) _, ?_⟩
      refine s_sne (fun h3 => absurd rfl h3) (fun _ => ?_)
      refine ⟨i, rfl, by omega, ⟨_, hw1⟩, ?_⟩
      refine ⟨_, _, _, _, hw1, hw2, rfl, ?_⟩
      refine ⟨k, rfl, by omega, ⟨_, hc1⟩, ?_⟩
      refine ⟨_, _, _, _, hc1, xr1 (by omega), rfl, ?_⟩
      refine ⟨.str (markS i k), PureL.at (mark_L i k (by omega) (by omega)) _, ?_⟩
      refine s_sne (fun h3 => absurd rfl h3) (fun _ => ?_)
      exact ⟨rfl, rfl, rfl, rfl, rfl, rfl, rfl, trivial⟩
    · rintro e' h' ⟨rfl, hd3, hs3⟩
      obtain ⟨n3, g3, rfl⟩ := hs3.out hd3
      refine s_nat (k + 1) (by omega) (by omega) ?_
      exact ⟨(), by omega, by omega, rfl, rfl, rfl, rfl, rfl, rfl, rfl, trivial⟩
  have go2 : ∀ (e : Env) (Q : Xit → Env → Hp → Prop), e.ds = [] → Has e [(0, .slc j 0 us.length none), (5, .slc jw 0 (one xs).length none), (9, .int .i64 i), (10, .int .i64 d.length), (12, .int .i64 (0 : Nat))] → (∀ e', e'.ds = [] → Has e' [(0, .slc j 0 us.length none), (5, .slc jw 0 (one xs).length none), (9, .int .i64 i)] → Q (.exit 12) e' H) →
      LCode Tryz.prog false (.loop A_lexiconref00_ownTexts_36) Q e H := by
    intro e Q hd0 hs0 hQ
    refine s_loop 16 (fun k (_ : Unit) => k ≤ 16) (fun k _ => [(0, .slc j 0 us.length none), (5, .slc jw 0 (one xs).length none), (9, .int .i64 i), (10, .int .i64 d.length), (12, .int .i64 k)]) (fun _ _ => H) () (Nat.zero_le _) rfl hd0 hs0 (fun k s hI => hI) ?_
    intro k _ n1 g1 hk _
    refine s_lt (fun h2 => ?_) (fun h2 => hQ _ rfl ⟨rfl, rfl, rfl, trivial⟩)
    refine s_blk (id := 13) (fun e' h' => h' = H ∧ e'.ds = [] ∧ Has e' [(0, .slc j 0 us.length none), (5, .slc jw 0 (one xs).length none), (9, .int .i64 i), (10, .int .i64 d.length), (12, .int .i64 k)]) ?_ ?_
    · refine .inr (.inl ?_)
      refine ⟨i, rfl, by omega, ⟨_, hw1⟩, ?_⟩
      refine ⟨_, _, _, _, hw1, hw2, rfl, ?_⟩
      refine s_nat (d.length + k) (by omega) (by omega) ?_
      refine ⟨d.length + k, rfl, by omega, ⟨_, hc1⟩, ?_⟩
      refine ⟨_, _, _, _, hc1, xr2 (by omega), rfl, ?_⟩
      refine s_64 (by omega) (by omega) ?_
      refine ⟨.str (markS (-1 - (i : Int)) k), PureL.at (mark_L _ k (by omega) (by omega)) _, ?_⟩
      refine s_sne (fun h3 => absurd rfl h3) (fun _ => ?_)
      exact ⟨rfl, rfl, rfl, rfl, rfl, rfl, rfl, trivial⟩
    · rintro e' h' ⟨rfl, hd3, hs3⟩
      obtain ⟨n3, g3, rfl⟩ := hs3.out hd3
      refine s_nat (k + 1) (by omega) (by omega) ?_
      exact ⟨(), by omega, by omega, rfl, rfl, rfl, rfl, rfl, rfl, rfl, trivial⟩
  have fin : ∀ (e : Env) (Q : Xit → Env → Hp → Prop), e.ds = [] → Has e [(0, .slc j 0 us.length none), (5, .slc jw 0 (one xs).length none), (9, .int .i64 i), (10, .int .i64 d.length)] →
      (∀ e', e'.ds = [] → Has e' [(0, .slc j 0 us.length none), (5, .slc jw 0 (one xs).length none), (9, .int .i64 i)] → Q .normal e' H) →
      LCode Tryz.prog false (.seq (.seq (.ops [o_ 11 (.mov (i_ 0))]) (.block 10 (.loop A_lexiconref00_ownTexts_26))) (.seq (.ops [o_ 12 (.mov (i_ 0))]) (.block 12 (.loop A_lexiconref00_ownTexts_36)))) Q e H := by
    intro e Q hd hs hQ
    obtain ⟨n1, g1, rfl⟩ := hs.out hd
    refine s_blk (id := 10) (fun e' H' => H' = H ∧ e'.ds = [] ∧ Has e' [(0, .slc j 0 us.length none), (5, .slc jw 0 (one xs).length none), (9, .int .i64 i), (10, .int .i64 d.length)]) ?_ ?_
    · exact go _ _ rfl ⟨rfl, rfl, rfl, rfl, rfl, trivial⟩ fun e' h1 h2 => ⟨rfl, h1, h2⟩
    · rintro e' H' ⟨rfl, hd2, hs2⟩
      obtain ⟨n2, g2, rfl⟩ := hs2.out hd2
      refine s_blk (id := 12) (fun e' h' => h' = H' ∧ e'.ds = [] ∧ Has e' [(0, .slc j 0 us.length none), (5, .slc jw 0 (one xs).length none), (9, .int .i64 i)]) ?_ ?_
      · exact go2 _ _ rfl ⟨rfl, rfl, rfl, rfl, rfl, trivial⟩ fun e' h1 h2 => ⟨rfl, h1, h2⟩
      · rintro e' h' ⟨rfl, hd3, hs3⟩
        exact hQ e' hd3 hs3
  -- the length
  rcases ho.own i u _ hu (txx_get hm) with ⟨rfl, h⟩ | ⟨b, rest, rfl, hb⟩
  · have h0 := congrArg List.length h
    rw [tx_len, hml] at h0
    have h0 : d.length = 0 := h0
    refine fin _ _ rfl ⟨rfl, rfl, rfl, by rw [h0]; rfl, trivial⟩ fun e' hd3 hs3 => ?_
    obtain ⟨n3, g3, rfl⟩ := hs3.out hd3
    refine s_nat (i + 1) (by omega) (by omega) ?_
    exact ⟨(), by omega, by omega, rfl, rfl, rfl, rfl, rfl, trivial⟩
  · refine fin _ _ rfl ⟨rfl, rfl, rfl, by rw [tx_len, hml]; rfl, trivial⟩ fun e' hd3 hs3 => ?_
    obtain ⟨n3, g3, rfl⟩ := hs3.out hd3
    refine s_nat (i + 1) (by omega) (by omega) ?_
    exact ⟨(), by omega, by omega, rfl, rfl, rfl, rfl, rfl, trivial⟩

theorem markAll_len (ds : List (List Str)) : (markAll ds).length = ds.length := by rw [markAll, List.length_map, List.length_range]
theorem ownTexts_L (us : List AV) (ds : List (List Str)) (h0 : Hp) (j : Nat) (hr : Row1 h0 j us) (hj : ∀ u ∈ us, blkOf u ≠ some j) (ho : OwnLL Ts h0 us (txx ds)) (hlen : us.length ≤ 1000) (hd : ∀ d ∈ ds, d.length ≤ 1000000) :
    CallL Tryz.prog F_lexiconref00_ownTexts [.slc j 0 us.length none] h0 fun r H => r = .ret (.bool true) ∧ Fr us h0 H := by
  have hdl : ds.length = us.length := by have := ho.len; rwa [List.length_map] at this
  refine K_lexiconref00_ownTexts (md := false) ?_
  refine s_blk (id := 0) (fun e' H => e'.ds = [] ∧ Has e' [(0, .slc j 0 us.length none)] ∧ Fr us h0 H ∧ OwnLL Ts H us (txx (markAll ds))) ?_ ?_
  · exact ownT1 us ds h0 h0 j hr hj ho hlen hd _ rfl rfl ⟨rfl, rfl, trivial⟩ _ fun e' H' h1 h2 h3 h4 => ⟨h1, h2, h3, h4⟩
  rintro e' H1 ⟨hd1, hs1, hF1, hO1⟩
  obtain ⟨n1, g1, rfl⟩ := hs1.out hd1
  clear hd1 hs1
  have hr1 : Row1 H1 j us := by
    obtain ⟨row, h1, h2⟩ := hr.row
    exact ⟨row, (hF1.m j (Hp.used h1) hj).trans h1, h2⟩
  have hd2 : ∀ d ∈ markAll ds, d.length ≤ 1000000 := fun d hdm => by
    obtain ⟨i, hi⟩ := List.getElem?_of_mem hdm
    have hil : i < ds.length := by have := (List.getElem?_eq_some_iff.1 hi).1; rwa [markAll_len] at this
    rw [markAll, List.getElem?_map, List.getElem?_range hil] at hi
    obtain ⟨d0, hd0⟩ := get_lt hil
    simp [hd0] at hi
    rw [← hi, markL_len]; exact hd d0 (List.mem_of_getElem? hd0)
  refine s_blk (id := 4) (fun e' H => e'.ds = [] ∧ ∃ w xs, Has e' [(0, .slc j 0 us.length none), (5, w)] ∧ xs.length = us.length ∧ Acc Tl H1 H w (one xs) ∧ ∀ (a : Nat) (x : AV) (d : List Str), xs[a]? = some x → (markAll ds)[a]? = some d → XOK H w a d x) ?_ ?_
  · exact ownT2 us (markAll ds) H1 j hr1 hO1 hlen hd2 _ rfl ⟨rfl, rfl, rfl, trivial⟩ _ fun e' H' w xs h1 h2 h3 h4 h5 => ⟨h1, w, xs, h2, h3, h4, h5⟩
  rintro e' H2 ⟨hd3, w, xs, hs3, hxl, hw, hX⟩
  obtain ⟨n2, g2, rfl⟩ := hs3.out hd3
  clear hd3 hs3
  refine s_blk (id := 8) (fun e' H => e'.ds = [] ∧ H = H2) ?_ ?_
  · refine ownT3 us xs ds H1 H2 j w ?_ (hO1.gr hw.1) hw hxl hX hlen hd hdl _ rfl ⟨rfl, rfl, rfl, trivial⟩ _ fun e' h1 => ⟨h1, rfl⟩
    obtain ⟨row, h1, h2⟩ := hr1.row
    exact ⟨row, hw.1.blk h1, h2⟩
  · rintro e' H ⟨hd4, rfl⟩
    exact ⟨hd4, rfl, hF1.gr hw.1⟩
end Go.Proofs.YtibdeeejjbmgcaaGreatDoor

/-
  Contracts: the document's masks: Parse, Print, Normal, Union, Meet.
-/
namespace Go.Proofs.YtibdeeejjbmgcaaGreatDoor
open Go.L

theorem Fz_pair {p : Nat → Bool} {g : Nat} {h : Hp} {a b a' b' : AV} (h1 : Fz p g h a a') (h2 : Fz p g h b b') : Fz p g h (.tup [a, b]) (.tup [a', b']) := .tup _ _ rfl (FzL.two h1 h2).2
/-- The number of an error: 0, or 160. -/
def no160 (is : Bool) : AV := .int .i64 (bif is then 0 else 160)
def parseV (s : Str) : AV := .tup [.isl 0 (tx ((parseM s).getD [])), no160 (parseM s).isSome]
theorem parse_yes {s : Str} (h1 : s ≠ []) (h : (splitC 44 s).all isPath = true) : parseM s = some (splitC 44 s) := by rw [parseM, if_neg h1, if_pos h]
theorem parse_no {s : Str} (h1 : s ≠ []) (h : (splitC 44 s).all isPath = false) : parseM s = none := by rw [parseM, if_neg h1, if_neg (by rw [h]; decide)]

theorem rParse_L (s : Str) (hs : s.length ≤ 100000000000) : PureL Tryz.prog F_lexiconref16_Parse [.str s] (parseV s) := by
  refine PureL.nil rfl ?_
  refine K_lexiconref16_Parse (md := false) ?_
  refine s_seq (fun h1 => ?_) (fun h1 => ?_)
  · subst h1; exact ⟨rfl, _, rfl, Fz_pair (.nilsI 0) (.same _ rfl)⟩
  refine s_loop (s.length + 1) (fun k (st : Nat × List Str × Hp × AV) => (k ≤ s.length ∧ Cut 44 s st.1 k st.2.1 ∧ st.2.1.all isPath = true ∧ Acc Ts Hp.nil st.2.2.1 st.2.2.2 (tx st.2.1)) ∨ (k = s.length + 1 ∧ (splitC 44 s).all isPath = true ∧ Acc Ts Hp.nil st.2.2.1 st.2.2.2 (tx (splitC 44 s))))
    (fun k st => [(0, .str s), (4, st.2.2.2), (5, .int .i64 st.1), (6, .int .i64 k)]) (fun _ st => st.2.2.1) (0, [], Hp.nil, .nils)
    (.inl ⟨Nat.zero_le _, Cut.start _ _, rfl, Acc.nil _ _⟩) rfl rfl ⟨rfl, rfl, rfl, rfl, trivial⟩ (fun k s hI => by omega) ?_
  rintro k ⟨fr, d, H, v⟩ n0 g0 hk hI
  have seg := cut_len s fr k
  simp only at hI
  refine s_le (fun h2 => ?_) (fun h2 => ?_)
  · rcases hI with ⟨hk1, hc, hd, ha⟩ | ⟨hk1, _⟩
    · have hle := hc.le
      have hdl := hc.len
      have app : ∀ (next : AV → Hp → Prop) (tb : Nat), Fresh H tb → (∀ v' H', Acc Ts Hp.nil H' v' (tx (d ++ [(s.take k).drop fr])) → next v' H') → LApp false Ts 1 16 v (.slc tb 0 1 (some 1)) (H.set tb (.row Ts (tx [(s.take k).drop fr]))) next := fun next tb htb hn => by
        refine ⟨_, ⟨_, _, Hp.set_same _ _ _, Nat.le_refl _, rfl⟩, ?_⟩
        refine Acc.app (ha.set htb.1 _) (tx_one [_]) (tx_flat [_]) (by rw [tx_len]; unfold capMax; simp; omega) (by rw [tx_len]; unfold capMax; simp; omega) fun v' H' ha' _ _ => hn v' H' ?_
        rw [tx_app]; exact ha'
      refine s_lt (fun h3 => ?_) (fun h3 => ?_)
      · obtain ⟨x, hx⟩ := get_lt (l := s) (k := k) (by omega)
        refine s_byte k x rfl hx ?_
        refine s_ne (fun h4 => ?_) (fun h4 => ?_)
        · refine s_nat (k + 1) (by omega) (by omega) ?_
          exact ⟨(fr, d, H, v), by omega, .inl ⟨by omega, hc.step hx (byte_ne (d := 44) h4), hd, ha⟩, rfl, rfl, rfl, rfl, rfl, rfl, trivial⟩
        · obtain rfl : x = 44 := byte_is h4
          refine ⟨k, rfl, fr, rfl, hle, by omega, ?_⟩
          refine (rPath_L _ (by omega)).useC (fun h5 => ?_) (fun h5 => ?_)
          · refine ⟨k, rfl, fr, rfl, hle, by omega, ?_⟩
            refine ⟨_, rfl, fun tb htb => ?_⟩
            refine app _ tb htb fun v' H' ha' => ?_
            refine s_nat (k + 1) (by omega) (by omega) ?_
            refine s_nat (k + 1) (by omega) (by omega) ?_
            exact ⟨(k + 1, d ++ [(s.take k).drop fr], H', v'), by omega, .inl ⟨by omega, hc.cut hx, all_snoc hd h5, ha'⟩, rfl, rfl, rfl, rfl, rfl, rfl, trivial⟩
          · refine ⟨rfl, _, rfl, ?_⟩
            rw [parseV, parse_no h1 (all_no (hc.mem (.inr hx)) h5)]
            exact Fz_pair (.nilsI 0) (.same _ rfl)
      · refine ⟨k, rfl, fr, rfl, hle, by omega, ?_⟩
        refine (rPath_L _ (by omega)).useC (fun h5 => ?_) (fun h5 => ?_)
        · refine ⟨k, rfl, fr, rfl, hle, by omega, ?_⟩
          refine ⟨_, rfl, fun tb htb => ?_⟩
          refine app _ tb htb fun v' H' ha' => ?_
          refine s_nat (k + 1) (by omega) (by omega) ?_
          refine s_nat (k + 1) (by omega) (by omega) ?_
          have e := hc.fin (by omega)
          refine ⟨(k + 1, d ++ [(s.take k).drop fr], H', v'), by omega, .inr ⟨by omega, ?_, ?_⟩, rfl, rfl, rfl, rfl, rfl, rfl, trivial⟩
          · rw [e]; exact all_snoc hd h5
          · show Acc Ts Hp.nil H' v' _
            rw [e]; exact ha'
        · refine ⟨rfl, _, rfl, ?_⟩
          rw [parseV, parse_no h1 (all_no (hc.mem (.inl (by omega))) h5)]
          exact Fz_pair (.nilsI 0) (.same _ rfl)
    · omega
  · rcases hI with ⟨hk1, _⟩ | ⟨_, hp, ha⟩
    · omega
    · refine ⟨rfl, _, rfl, ?_⟩
      rw [parseV, parse_yes h1 hp]
      exact Fz_pair (ha.fz (noidss_tx _ _)) (.same _ rfl)

def printS (l : List Str) : Str := bif l.all isPath then joinC 44 l else []
def printV (l : List Str) : AV := .tup [.str (printS l), no160 (l.all isPath)]
theorem rPrint_L (g : Nat) (l : List Str) (hl : l.length ≤ 1000) (hp : ∀ s ∈ l, s.length ≤ 1000000) : PureL Tryz.prog F_lexiconref16_Print [.isl g (tx l)] (printV l) := by
  intro h
  have htl := tx_len l
  refine K_lexiconref16_Print (md := false) ?_
  refine s_loop l.length (fun k (_ : Unit) => k ≤ l.length ∧ (l.take k).all isPath = true) (fun k _ => [(0, .isl g (tx l)), (4, .str (joinC 44 (l.take k))), (5, .int .i64 k)]) (fun _ _ => h) ()
    ⟨Nat.zero_le _, rfl⟩ rfl rfl ⟨rfl, rfl, rfl, trivial⟩ (fun k s hI => hI.1) ?_
  intro k _ n0 g0 hk ⟨_, hall⟩
  refine s_lt (fun h1 => ?_) (fun h1 => ?_)
  · obtain ⟨x, hx⟩ := get_lt (l := l) (k := k) (by omega)
    have hm := List.mem_of_getElem? hx
    have hxl := hp x hm
    have hst := List.take_succ_of_get hx
    have hjl : (joinC 44 (l.take k)).length ≤ 1000 * 1000001 := by
      have := joinC_len (c := 44) (B := 1000000) (l := l.take k) fun s hs => hp s (List.mem_of_mem_take hs)
      refine Nat.le_trans this (Nat.mul_le_mul_right _ ?_)
      rw [List.length_take]; omega
    refine s_at k x rfl hx rfl (by decide) ?_
    refine ⟨_, rfl, ?_⟩
    refine (rPath_L x (by omega)).useC (fun h2 => ?_) (fun h2 => ?_)
    · have ok : ((l.take k ++ [x]).all isPath) = true := all_snoc hall h2
      refine s_lt (fun h3 => ?_) (fun h3 => ?_)
      · refine ⟨by show (joinC 44 (l.take k)).length + 1 ≤ _; omega, ?_⟩
        refine s_at k x rfl hx rfl (by decide) ?_
        refine ⟨_, rfl, ?_⟩
        refine ⟨by show (joinC 44 (l.take k) ++ [44]).length + x.length ≤ _; rw [List.length_append, show ([44] : Str).length = 1 from rfl]; omega, ?_⟩
        refine s_nat (k + 1) (by omega) (by omega) ?_
        have hne : l.take k ≠ [] := fun e => by have := congrArg List.length e; rw [List.length_take, List.length_nil] at this; omega
        refine ⟨(), by omega, ⟨by omega, by rw [hst]; exact ok⟩, rfl, rfl, rfl, ?_, rfl, trivial⟩
        show AV.str _ = _
        rw [hst, joinC_snoc 44 _ _ hne]; simp
      · refine s_at k x rfl hx rfl (by decide) ?_
        refine ⟨_, rfl, ?_⟩
        refine ⟨by omega, ?_⟩
        refine s_nat (k + 1) (by omega) (by omega) ?_
        obtain rfl : k = 0 := by omega
        refine ⟨(), by omega, ⟨by omega, by rw [hst]; exact ok⟩, rfl, rfl, rfl, ?_, rfl, trivial⟩
        show AV.str _ = _
        rw [hst]; rfl
    · have : l.all isPath = false := all_no hm h2
      refine ⟨rfl, ?_, rfl⟩
      rw [printV, printS, this]; rfl
  · have hlk : l.take k = l := List.take_of_length_le (by omega)
    rw [hlk] at hall ⊢
    refine ⟨rfl, ?_, rfl⟩
    rw [printV, printS, hall]; rfl

theorem set_two {α : Type} (l R : List α) (a x c d : α) : ((l ++ a :: x :: R).set (0 + (l.length + 1)) c).set (0 + l.length) d = l ++ d :: c :: R := by
  rw [Nat.zero_add, Nat.zero_add]
  simp [List.set_append]

/-- Is a text kept? -/
theorem rKeep (g : Nat) (l : List Str) (hl : l.length ≤ 1000000) (hp : ∀ s ∈ l, s.length ≤ 1000000000000000) (k : Nat) (hk : k ≤ l.length) (x : Str) (hx : l[k]? = some x) (v : AV) (H : Hp) (e : Env) (Q : Xit → Env → Hp → Prop) (hd : e.ds = [])
    (hs : Has e [(0, .isl g (tx l)), (3, v), (4, .int .i64 k), (5, .bool true), (6, .int .i64 (0 : Nat))])
    (hQ : ∀ e' b, e'.ds = [] → (b = true ↔ keepAt l k x) → Has e' [(0, .isl g (tx l)), (3, v), (4, .int .i64 k), (5, .bool b)] → Q (.exit 2) e' H) : LCode Tryz.prog false (.loop A_lexiconref16_Normal_4) Q e H := by
  have htl := tx_len l
  refine s_loop l.length (fun m (b : Bool) => m ≤ l.length ∧ (b = true ↔ ∀ (j : Nat) (y : Str), j < m → l[j]? = some y → ¬ (y ≠ x ∧ covers y x = true) ∧ ¬ (j < k ∧ y = x))) (fun m b => [(0, .isl g (tx l)), (3, v), (4, .int .i64 k), (5, .bool b), (6, .int .i64 m)]) (fun _ _ => H) true
    ⟨Nat.zero_le _, ⟨fun _ j y hj => by omega, fun _ => rfl⟩⟩ rfl hd hs (fun m b hI => hI.1) ?_
  rintro m b n1 g1 hm ⟨_, hb⟩
  refine s_lt (fun h2 => ?_) (fun h2 => ?_)
  · obtain ⟨y, hy⟩ := get_lt (l := l) (k := m) (by omega)
    have cx := covers1_L y x (hp y (List.mem_of_getElem? hy)) (hp x (List.mem_of_getElem? hx))
    refine s_blk (id := 3) (fun e' h' => h' = H ∧ e'.ds = [] ∧ ∃ b' : Bool, (b' = true ↔ b = true ∧ ¬ (y ≠ x ∧ covers y x = true) ∧ ¬ (m < k ∧ y = x)) ∧ Has e' [(0, .isl g (tx l)), (3, v), (4, .int .i64 k), (5, .bool b'), (6, .int .i64 m)]) ?_ ?_
    · refine s_at m y rfl hy rfl (by decide) ?_
      refine ⟨_, rfl, ?_⟩
      refine s_at k x rfl hx rfl (by decide) ?_
      refine ⟨_, rfl, ?_⟩
      refine s_sne (fun h3 => ?_) (fun h3 => ?_)
      · refine s_at m y rfl hy rfl (by decide) ?_
        refine ⟨_, rfl, ?_⟩
        refine s_at k x rfl hx rfl (by decide) ?_
        refine ⟨_, rfl, ?_⟩
        refine cx.useC (fun h4 => ?_) (fun h4 => ?_)
        · exact ⟨rfl, rfl, false, by simp [h3, h4], rfl, rfl, rfl, rfl, rfl, trivial⟩
        · refine s_lt (fun h5 => ?_) (fun h5 => ?_)
          · refine s_at m y rfl hy rfl (by decide) ?_
            refine ⟨_, rfl, ?_⟩
            refine s_at k x rfl hx rfl (by decide) ?_
            refine ⟨_, rfl, ?_⟩
            refine s_seq (fun h6 => absurd h6 h3) (fun h6 => ?_)
            exact ⟨rfl, rfl, b, by simp [h3, h4], rfl, rfl, rfl, rfl, rfl, trivial⟩
          · exact ⟨rfl, rfl, b, by simp [h3, h4], rfl, rfl, rfl, rfl, rfl, trivial⟩
      · refine s_lt (fun h5 => ?_) (fun h5 => ?_)
        · refine s_at m y rfl hy rfl (by decide) ?_
          refine ⟨_, rfl, ?_⟩
          refine s_at k x rfl hx rfl (by decide) ?_
          refine ⟨_, rfl, ?_⟩
          refine s_seq (fun h6 => ?_) (fun h6 => absurd h3 h6)
          exact ⟨rfl, rfl, false, by simp [h3]; omega, rfl, rfl, rfl, rfl, rfl, trivial⟩
        · exact ⟨rfl, rfl, b, by simp [h3]; omega, rfl, rfl, rfl, rfl, rfl, trivial⟩
    · rintro e' h' ⟨rfl, hd3, b', hb', hs3⟩
      obtain ⟨n3, g3, rfl⟩ := hs3.out hd3
      refine s_nat (m + 1) (by omega) (by omega) ?_
      refine ⟨b', by omega, ⟨by omega, ?_⟩, rfl, rfl, rfl, rfl, rfl, rfl, rfl, trivial⟩
      rw [hb', hb]
      constructor
      · rintro ⟨h3, h4⟩ j z hj hz
        by_cases e : j = m
        · subst e; rw [hy] at hz; cases hz; exact h4
        · exact h3 j z (by omega) hz
      · intro h3
        exact ⟨fun j z hj hz => h3 j z (by omega) hz, h3 m y (by omega) hy⟩
  · refine hQ _ b rfl ?_ ⟨rfl, rfl, rfl, rfl, trivial⟩
    rw [hb]
    constructor
    · intro h3
      refine ⟨fun y hy hne => ?_, fun j y hj hy e => ?_⟩
      · obtain ⟨j, hj⟩ := List.getElem?_of_mem hy
        have hjl := (List.getElem?_eq_some_iff.1 hj).1
        have := (h3 j y (by omega) hj).1
        rw [Bool.eq_false_iff]
        exact fun hc => this ⟨hne, hc⟩
      · have hjl := (List.getElem?_eq_some_iff.1 hy).1
        exact (h3 j y (by omega) hy).2 ⟨hj, e⟩
    · rintro ⟨h3, h4⟩ j y hj hy
      refine ⟨fun ⟨q1, q2⟩ => ?_, fun ⟨q1, q2⟩ => h4 j y q1 hy q2⟩
      rw [h3 y (List.mem_of_getElem? hy) q1] at q2; cases q2

/-- One more is put in its place. -/
theorem rIns (g : Nat) (l out : List Str) (x : Str) (hol : out.length ≤ 1000000) (k jb : Nat) (rest : List (List AV)) (H' : Hp) (hrow : H' jb = some (.row Ts (tx (out ++ [x]) ++ rest))) (e : Env) (Q : Xit → Env → Hp → Prop) (hd : e.ds = [])
    (hs : Has e [(0, .isl g (tx l)), (3, .slc jb 0 (tx (out ++ [x])).length none), (4, .int .i64 k), (7, .int .i64 out.length)])
    (hQ : ∀ e' A B, e'.ds = [] → A ++ B = out → (∀ b ∈ B, x < b) → (∀ a, A.getLast? = some a → ¬ x < a) → Has e' [(0, .isl g (tx l)), (3, .slc jb 0 (tx (out ++ [x])).length none), (4, .int .i64 k)] → Q (.exit 4) e' (H'.set jb (.row Ts (tx (A ++ x :: B) ++ rest)))) :
    LCode Tryz.prog false (.loop A_lexiconref16_Normal_13) Q e H' := by
  have hel : (tx (out ++ [x])).length = out.length + 1 := by rw [tx_len]; simp
  refine s_loop out.length (fun q (st : List Str × List Str) => st.1 ++ st.2 = out ∧ st.2.length = q ∧ ∀ b ∈ st.2, x < b) (fun q st => [(0, .isl g (tx l)), (3, .slc jb 0 (tx (out ++ [x])).length none), (4, .int .i64 k), (7, .int .i64 st.1.length)]) (fun _ st => H'.set jb (.row Ts (tx (st.1 ++ x :: st.2) ++ rest))) (out, [])
    ⟨by simp, rfl, fun b hb => by cases hb⟩ (Hp.set_self hrow).symm hd hs (fun q st hI => by rw [← hI.1, ← hI.2.1, List.length_append]; omega) ?_
  rintro q ⟨A, B⟩ n2 g2 hq ⟨hAB, hBl, hB⟩
  simp only at hAB hBl hB
  have hABl : A.length + B.length = out.length := by rw [← hAB, List.length_append]
  have hset : (H'.set jb (.row Ts (tx (A ++ x :: B) ++ rest))).m jb = some (.row Ts (tx (A ++ x :: B) ++ rest)) := Hp.set_same _ _ _
  have gx : (tx (A ++ x :: B) ++ rest)[0 + A.length]? = some (el x) := by
    rw [Nat.zero_add]; exact tx_get2 (by rw [List.getElem?_append_right (Nat.le_refl _), Nat.sub_self]; rfl)
  refine s_lt (fun h2 => ?_) (fun h2 => ?_)
  · obtain ⟨A', a, rfl⟩ : ∃ A' a, A = A' ++ [a] := by
      rcases List.eq_nil_or_concat A with e | ⟨A', a, e⟩
      · rw [e] at h2; simp at h2
      · exact ⟨A', a, by rw [e, List.concat_eq_append]⟩
    have hA'l : (A' ++ [a]).length = A'.length + 1 := by simp
    rw [hA'l] at hABl
    have ga : (tx ((A' ++ [a]) ++ x :: B) ++ rest)[0 + A'.length]? = some (el a) := by
      rw [Nat.zero_add]; exact tx_get2 (by rw [List.append_assoc, List.getElem?_append_right (Nat.le_refl _), Nat.sub_self]; rfl)
    refine ⟨(A' ++ [a]).length, rfl, by rw [hel, hA'l]; omega, ⟨_, hset⟩, ?_⟩
    refine ⟨_, _, _, _, hset, gx, rfl, ?_⟩
    refine s_nat A'.length (by rw [hA'l]; omega) (by omega) ?_
    refine ⟨A'.length, rfl, by rw [hel]; omega, ⟨_, hset⟩, ?_⟩
    refine ⟨_, _, _, _, hset, ga, rfl, ?_⟩
    refine s_c (fun h3 => ?_) (fun h3 => ?_)
    · rw [Go.Proofs.bytesLess_eq, decide_eq_true_eq] at h3
      have hfin : ((H'.set jb (.row Ts (tx ((A' ++ [a]) ++ x :: B) ++ rest))).set jb (.row Ts ((tx ((A' ++ [a]) ++ x :: B) ++ rest).set (0 + (A' ++ [a]).length) (el a)))).set jb (.row Ts (((tx ((A' ++ [a]) ++ x :: B) ++ rest).set (0 + (A' ++ [a]).length) (el a)).set (0 + A'.length) (el x))) = H'.set jb (.row Ts (tx (A' ++ x :: a :: B) ++ rest)) := by
        rw [Hp.set_set, Hp.set_set]
        refine congrArg (fun es => H'.set jb (.row Ts es)) ?_
        have e1 : tx ((A' ++ [a]) ++ x :: B) ++ rest = tx A' ++ el a :: el x :: (tx B ++ rest) := by simp [tx]
        have e2 : tx (A' ++ x :: a :: B) ++ rest = tx A' ++ el x :: el a :: (tx B ++ rest) := by simp [tx]
        have := set_two (tx A') (tx B ++ rest) (el a) (el x) (el a) (el x)
        rw [tx_len] at this
        rw [hA'l, e1]
        exact this.trans e2.symm
      refine ⟨(A' ++ [a]).length, rfl, by rw [hel, hA'l]; omega, ⟨_, hset⟩, ?_⟩
      refine ⟨_, _, _, _, hset, gx, rfl, ?_⟩
      refine s_nat A'.length (by rw [hA'l]; omega) (by omega) ?_
      refine ⟨A'.length, rfl, by rw [hel]; omega, ⟨_, hset⟩, ?_⟩
      refine ⟨_, _, _, _, hset, ga, rfl, ?_⟩
      refine ⟨(A' ++ [a]).length, rfl, by rw [hel, hA'l]; omega, ⟨_, hset⟩, ?_⟩
      refine ⟨_, _, _, hset, gx, rfl, rfl, rfl, Nat.le_refl _, ?_⟩
      refine s_nat A'.length (by rw [hA'l]; omega) (by omega) ?_
      refine ⟨A'.length, rfl, by rw [hel]; omega, ⟨_, Hp.set_same _ _ _⟩, ?_⟩
      have ga2 : ((tx ((A' ++ [a]) ++ x :: B) ++ rest).set (0 + (A' ++ [a]).length) [.str a])[0 + A'.length]? = some (el a) := by
        rw [List.getElem?_set, if_neg (by rw [hA'l]; omega)]; exact ga
      refine ⟨_, _, _, Hp.set_same _ _ _, ga2, rfl, rfl, rfl, Nat.le_refl _, ?_⟩
      refine s_nat A'.length (by rw [hA'l]; omega) (by omega) ?_
      refine ⟨(A', a :: B), by omega, ⟨by rw [← hAB]; simp, by simp [hBl], fun b hb => ?_⟩, ?_, rfl, rfl, rfl, rfl, rfl, trivial⟩
      · rcases List.mem_cons.1 hb with rfl | hb
        · exact h3
        · exact hB b hb
      · exact hfin
    · rw [Go.Proofs.bytesLess_eq, decide_eq_false_iff_not] at h3
      exact hQ _ (A' ++ [a]) B rfl hAB hB (fun z hz => by simp at hz; subst hz; exact h3) ⟨rfl, rfl, rfl, trivial⟩
  · have h2' : (A.length : Int) ≤ 0 := h2
    have hA0 : A = [] := List.eq_nil_of_length_eq_zero (by omega)
    subst hA0
    exact hQ _ [] B rfl hAB hB (fun z hz => by cases hz) ⟨rfl, rfl, rfl, trivial⟩

theorem rNormal_L (g : Nat) (l : List Str) (hl : l.length ≤ 1000000) (hp : ∀ s ∈ l, s.length ≤ 1000000000000000) : PureL Tryz.prog F_lexiconref16_Normal [.isl g (tx l)] (.isl 0 (tx (normal l))) := by
  have htl := tx_len l
  refine PureL.nil (by rw [noids, noids, noid_isl anyMark g l rfl]; rfl) ?_
  refine K_lexiconref16_Normal (md := false) ?_
  refine s_loop l.length (fun k (st : List Str × Hp × AV) => k ≤ l.length ∧ Kept l k st.1 ∧ st.1.length ≤ k ∧ Acc Ts Hp.nil st.2.1 st.2.2 (tx st.1)) (fun k st => [(0, .isl g (tx l)), (3, st.2.2), (4, .int .i64 k)]) (fun _ st => st.2.1) ([], Hp.nil, .nils)
    ⟨Nat.zero_le _, Kept.nil l, Nat.le_refl _, Acc.nil _ _⟩ rfl rfl ⟨rfl, rfl, rfl, trivial⟩ (fun k s hI => hI.1) ?_
  rintro k ⟨out, H, v⟩ n0 g0 hk ⟨_, hkept, hol, hacc⟩
  simp only at hkept hol hacc
  refine s_lt (fun h1 => ?_) (fun h1 => ?_)
  · obtain ⟨x, hx⟩ := get_lt (l := l) (k := k) (by omega)
    refine s_blk (id := 2) (fun e' h' => h' = H ∧ e'.ds = [] ∧ ∃ b : Bool, (b = true ↔ keepAt l k x) ∧ Has e' [(0, .isl g (tx l)), (3, v), (4, .int .i64 k), (5, .bool b)]) ?_ ?_
    · exact rKeep g l hl hp k (by omega) x hx v H _ _ rfl ⟨rfl, rfl, rfl, rfl, rfl, trivial⟩ fun e' b h1 h2 h3 => ⟨rfl, h1, b, h2, h3⟩
    rintro e' h' ⟨rfl, hd2, b, hb, hs2⟩
    obtain ⟨n1, g1, rfl⟩ := hs2.out hd2
    clear hd2 hs2
    cases b with
    | false =>
      refine s_nat (k + 1) (by omega) (by omega) ?_
      exact ⟨(out, h', v), by omega, ⟨by omega, hkept.skip hx (fun h => by have := hb.2 h; cases this), by show out.length ≤ k + 1; omega, hacc⟩, rfl, rfl, rfl, rfl, rfl, trivial⟩
    | true =>
      have hka := hb.1 rfl
      refine s_at k x rfl hx rfl (by decide) ?_
      refine ⟨_, rfl, ?_⟩
      refine ⟨_, rfl, fun tb htb => ?_⟩
      refine ⟨_, ⟨_, _, Hp.set_same _ _ _, Nat.le_refl _, rfl⟩, ?_⟩
      refine Acc.app (hacc.set htb.1 _) (tx_one [x]) (tx_flat [x]) (by rw [tx_len]; unfold capMax; simp; omega) (by rw [tx_len]; unfold capMax; simp; omega) fun v' H' ha' _ _ => ?_
      have ha2 : Acc Ts Hp.nil H' v' (tx (out ++ [x])) := by rw [tx_app]; exact ha'
      have hgr := ha2.1
      obtain ⟨jb, row, rfl, hjb, hrow, ht, hrl⟩ := ha2.slc (by simp [tx])
      have hel : (tx (out ++ [x])).length = out.length + 1 := by rw [tx_len]; simp
      obtain ⟨rest, hrest⟩ : ∃ rest, row = tx (out ++ [x]) ++ rest := ⟨row.drop (tx (out ++ [x])).length, by rw [← ht, List.length_take, Nat.min_eq_left hrl, List.take_append_drop]⟩
      subst hrest
      clear ht hrl ha' ha2 hacc
      refine s_nat out.length (by rw [hel]; omega) (by omega) ?_
      refine s_blk (id := 4) (fun e' h2 => e'.ds = [] ∧ (∃ A B, A ++ B = out ∧ (∀ b ∈ B, x < b) ∧ (∀ a, A.getLast? = some a → ¬ x < a) ∧ h2 = H'.set jb (.row Ts (tx (A ++ x :: B) ++ rest))) ∧ Has e' [(0, .isl g (tx l)), (3, .slc jb 0 (tx (out ++ [x])).length none), (4, .int .i64 k)]) ?_ ?_
      · exact rIns g l out x (by omega) k jb rest H' hrow _ _ rfl ⟨rfl, rfl, rfl, rfl, trivial⟩ fun e' A B h1 h2 h3 h4 h5 => ⟨h1, ⟨A, B, h2, h3, h4, rfl⟩, h5⟩
      · rintro e' h2 ⟨hd3, ⟨A, B, hAB, hB, hA, rfl⟩, hs3⟩
        obtain ⟨n3, g3, rfl⟩ := hs3.out hd3
        refine s_nat (k + 1) (by omega) (by omega) ?_
        have hABl : A.length + B.length = out.length := by rw [← hAB, List.length_append]
        refine ⟨(A ++ x :: B, _, _), by omega, ⟨by omega, ?_, by show (A ++ x :: B).length ≤ k + 1; simp; omega, ?_⟩, rfl, rfl, rfl, rfl, rfl, trivial⟩
        · have : Kept l k (A ++ B) := by rw [hAB]; exact hkept
          exact this.ins hx hka hB hA
        · have hl2 : (tx (out ++ [x])).length = (tx (A ++ x :: B)).length := by rw [hel, tx_len]; simp; omega
          show Acc Ts Hp.nil (H'.set jb _) (.slc jb 0 (tx (out ++ [x])).length none) (tx (A ++ x :: B))
          rw [hl2]
          exact ⟨hgr.set hjb _, .inr ⟨jb, _, rfl, hjb, Hp.set_same _ _ _, List.take_left, by rw [List.length_append]; omega⟩⟩
  · have e := hkept.done (by omega)
    refine ⟨rfl, _, rfl, ?_⟩
    rw [← e]; exact hacc.fz (noidss_tx _ _)
end Go.Proofs.YtibdeeejjbmgcaaGreatDoor

/-
  Contracts: the document's Union and Meet; texts put together; Print.
-/
namespace Go.Proofs.YtibdeeejjbmgcaaGreatDoor
open Go.L

theorem FzL_one {p : Nat → Bool} {g : Nat} {h : Hp} {a a' : AV} (h1 : Fz p g h a a') : FzL p g h [a] [a'] := by
  refine ⟨rfl, fun q v v' e1 e2 => ?_⟩
  match q with
  | 0 => cases e1; cases e2; exact h1
  | q + 1 => simp at e1

theorem rUnion_L (ga gb : Nat) (a b : List Str) (ha : a.length ≤ 1000) (hb : b.length ≤ 1000) (hp : ∀ p ∈ a ++ b, p.length ≤ 1000000000000000) :
    PureL Tryz.prog F_lexiconref16_Union [.isl ga (tx a), .isl gb (tx b)] (.isl 0 (tx (normal (a ++ b)))) := by
  refine PureL.nil (noids_texts anyMark (fun _ => rfl) [(ga, a), (gb, b)]) ?_
  refine K_lexiconref16_Union (md := false) ?_
  have hta := tx_len a
  have htb := tx_len b
  refine ⟨tx a, rfl, ?_⟩
  refine Acc.app (Acc.nil Ts Hp.nil) (tx_one _) (tx_flat _) (by unfold capMax; simp; omega) (by unfold capMax; simp; omega) fun v1 H1 a1 _ _ => ?_
  refine ⟨tx b, rfl, ?_⟩
  refine Acc.app a1 (tx_one _) (tx_flat _) (by unfold capMax; simp; omega) (by unfold capMax; simp; omega) fun v2 H2 a2 _ _ => ?_
  have a3 : Acc Ts Hp.nil H2 v2 (tx (a ++ b)) := by rw [tx_app]; exact a2
  refine CallL.lentP (rNormal_L 1 (a ++ b) (by simp; omega) hp) (FzL_one (a3.fz (noidss_tx _ _))) (noid_isl mark0 0 _ rfl) ?_
  exact ⟨rfl, _, rfl, .same _ (noid_isl mark0 0 _ rfl)⟩

theorem rMeet_L (ga gb : Nat) (a b : List Str) (hal : a.length ≤ 1000) (hbl : b.length ≤ 1000) (hp : ∀ p ∈ a ++ b, p.length ≤ 1000000000000000) :
    PureL Tryz.prog F_lexiconref16_Meet [.isl ga (tx a), .isl gb (tx b)] (.isl 0 (tx (normal (a.filter (cov b) ++ b.filter (cov a))))) := by
  have hta := tx_len a
  have htb := tx_len b
  have hpa : ∀ s ∈ a, s.length ≤ 1000000000000000 := fun s hs => hp s (List.mem_append_left _ hs)
  have hpb : ∀ s ∈ b, s.length ≤ 1000000000000000 := fun s hs => hp s (List.mem_append_right _ hs)
  refine PureL.nil (noids_texts anyMark (fun _ => rfl) [(ga, a), (gb, b)]) ?_
  refine K_lexiconref16_Meet (md := false) ?_
  refine s_loop a.length (fun k (s : Hp × AV) => k ≤ a.length ∧ Acc Ts Hp.nil s.1 s.2 (tx ((a.take k).filter (cov b)))) (fun k s => [(0, .isl ga (tx a)), (1, .isl gb (tx b)), (5, s.2), (6, .int .i64 k)])
    (fun _ s => s.1) (Hp.nil, .nils) ⟨Nat.zero_le _, Acc.nil _ _⟩ rfl rfl ⟨rfl, rfl, rfl, rfl, trivial⟩ (fun k s hI => hI.1) ?_
  rintro k ⟨H, v⟩ n0 g0 hk ⟨_, hacc⟩
  simp only at hacc
  have hfl : ((a.take k).filter (cov b)).length ≤ a.length := Nat.le_trans (List.length_filter_le _ _) (by rw [List.length_take]; omega)
  refine s_lt (fun h1 => ?_) (fun h1 => ?_)
  · obtain ⟨x, hx⟩ := get_lt (l := a) (k := k) (by omega)
    refine s_at k x rfl hx rfl (by decide) ?_
    refine ⟨_, rfl, ?_⟩
    have st : (a.take (k + 1)).filter (cov b) = (a.take k).filter (cov b) ++ if cov b x = true then [x] else [] := by
      rw [List.take_succ_of_get hx, List.filter_append]; cases h : cov b x <;> simp [h]
    refine (rCovers_L gb b x (by omega) hpb (hpa x (List.mem_of_getElem? hx))).useC (fun h2 => ?_) (fun h2 => ?_)
    · rw [if_pos h2] at st
      refine s_at k x rfl hx rfl (by decide) ?_
      refine ⟨_, rfl, ?_⟩
      refine ⟨_, rfl, fun tb htb' => ?_⟩
      refine ⟨_, ⟨_, _, Hp.set_same _ _ _, Nat.le_refl _, rfl⟩, ?_⟩
      refine Acc.app (hacc.set htb'.1 _) (tx_one [x]) (tx_flat [x]) (by rw [tx_len]; unfold capMax; simp; omega) (by rw [tx_len]; unfold capMax; simp; omega) fun v' H' ha' _ _ => ?_
      refine s_nat (k + 1) (by omega) (by omega) ?_
      refine ⟨(H', v'), by omega, ⟨by omega, ?_⟩, rfl, rfl, rfl, rfl, rfl, rfl, trivial⟩
      have ha2 : Acc Ts Hp.nil H' v' (tx ((a.take k).filter (cov b)) ++ tx [x]) := ha'
      rw [st, tx_app]; exact ha2
    · rw [if_neg (by rw [h2]; simp), List.append_nil] at st
      refine s_nat (k + 1) (by omega) (by omega) ?_
      refine ⟨(H, v), by omega, ⟨by omega, ?_⟩, rfl, rfl, rfl, rfl, rfl, rfl, trivial⟩
      rw [st]; exact hacc
  have hka : a.take k = a := List.take_of_length_le (by omega)
  rw [hka] at hacc
  clear hfl h1 hk hka
  refine s_loop b.length (fun k (s : Hp × AV) => k ≤ b.length ∧ Acc Ts Hp.nil s.1 s.2 (tx (a.filter (cov b) ++ (b.take k).filter (cov a)))) (fun k s => [(0, .isl ga (tx a)), (1, .isl gb (tx b)), (5, s.2), (7, .int .i64 k)])
    (fun _ s => s.1) (H, v) ⟨Nat.zero_le _, by simpa using hacc⟩ rfl rfl ⟨rfl, rfl, rfl, rfl, trivial⟩ (fun k s hI => hI.1) ?_
  clear hacc
  rintro k ⟨H, v⟩ n0 g0 hk ⟨_, hacc⟩
  simp only at hacc
  have hfl1 : (a.filter (cov b)).length ≤ a.length := List.length_filter_le _ _
  have hfl : ((b.take k).filter (cov a)).length ≤ b.length := Nat.le_trans (List.length_filter_le _ _) (by rw [List.length_take]; omega)
  refine s_lt (fun h1 => ?_) (fun h1 => ?_)
  · obtain ⟨x, hx⟩ := get_lt (l := b) (k := k) (by omega)
    refine s_at k x rfl hx rfl (by decide) ?_
    refine ⟨_, rfl, ?_⟩
    have st : (b.take (k + 1)).filter (cov a) = (b.take k).filter (cov a) ++ if cov a x = true then [x] else [] := by
      rw [List.take_succ_of_get hx, List.filter_append]; cases h : cov a x <;> simp [h]
    refine (rCovers_L ga a x (by omega) hpa (hpb x (List.mem_of_getElem? hx))).useC (fun h2 => ?_) (fun h2 => ?_)
    · rw [if_pos h2] at st
      refine s_at k x rfl hx rfl (by decide) ?_
      refine ⟨_, rfl, ?_⟩
      refine ⟨_, rfl, fun tb htb' => ?_⟩
      refine ⟨_, ⟨_, _, Hp.set_same _ _ _, Nat.le_refl _, rfl⟩, ?_⟩
      refine Acc.app (hacc.set htb'.1 _) (tx_one [x]) (tx_flat [x]) (by rw [tx_len]; unfold capMax; simp; omega) (by rw [tx_len]; unfold capMax; simp; omega) fun v' H' ha' _ _ => ?_
      refine s_nat (k + 1) (by omega) (by omega) ?_
      refine ⟨(H', v'), by omega, ⟨by omega, ?_⟩, rfl, rfl, rfl, rfl, rfl, rfl, trivial⟩
      have ha2 : Acc Ts Hp.nil H' v' (tx (a.filter (cov b) ++ (b.take k).filter (cov a)) ++ tx [x]) := ha'
      rw [st, ← List.append_assoc, tx_app]; exact ha2
    · rw [if_neg (by rw [h2]; simp), List.append_nil] at st
      refine s_nat (k + 1) (by omega) (by omega) ?_
      refine ⟨(H, v), by omega, ⟨by omega, ?_⟩, rfl, rfl, rfl, rfl, rfl, rfl, trivial⟩
      rw [st]; exact hacc
  have hkb : b.take k = b := List.take_of_length_le (by omega)
  rw [hkb] at hacc
  refine CallL.lentP (rNormal_L 1 (a.filter (cov b) ++ b.filter (cov a)) ?_ fun p hpm => ?_) (FzL_one (hacc.fz (noidss_tx _ _))) (noid_isl mark0 0 _ rfl) ?_
  · have := List.length_filter_le (cov a) b
    simp only [List.length_append]; omega
  · rcases List.mem_append.1 hpm with hm | hm
    · exact hpa p (List.mem_filter.1 hm).1
    · exact hpb p (List.mem_filter.1 hm).1
  exact ⟨rfl, _, rfl, .same _ (noid_isl mark0 0 _ rfl)⟩

/-! ### strings.Builder -/
abbrev Tb : TypeId := 177
abbrev Tu : TypeId := 5
def bys (s : Str) : List (List AV) := s.map fun b => [.int .u8 b.toNat]
theorem bys_len (s : Str) : (bys s).length = s.length := List.length_map _
theorem bys_app (a b : Str) : bys (a ++ b) = bys a ++ bys b := List.map_append
theorem bys_one (s : Str) : ∀ cs ∈ bys s, cs.length = 1 := fun cs h => by obtain ⟨c, _, rfl⟩ := List.mem_map.1 h; rfl
theorem bys_flat (s : Str) : ∀ cs ∈ bys s, flat cs = true := fun cs h => by obtain ⟨c, _, rfl⟩ := List.mem_map.1 h; rfl
theorem bytesL_bys : ∀ s : Str, bytesL (bys s) = some s
  | [] => rfl
  | c :: s => by
    have h1 : (decide ((0 : Int) ≤ (c.toNat : Nat)) && Nat.blt ((c.toNat : Nat) : Int).toNat 256) = true := by
      rw [decide_eq_true (by omega), Int.toNat_natCast]
      exact Nat.ble_eq_true_of_le c.toNat_lt
    have h2 : ((c.toNat : Nat) : Int).toNat.toUInt8 = c := by rw [Int.toNat_natCast]; exact UInt8.ofNat_toNat
    have ih := bytesL_bys s
    simp only [bys, List.map_cons, bytesL] at ih ⊢
    rw [h1, ih, h2]

/-- A builder, and what it has so far. -/
def Bu (h0 : Hp) (b : Nat) (H : Hp) (s : Str) : Prop := h0.u b = false ∧ ∃ ad v, H b = some (.row Tb [[ad, v]]) ∧ (ad = .nilp ∨ ad = .ptr b 0 0) ∧ blkOf v ≠ some b ∧ Acc Tu h0 H v (bys s)

theorem copyCheck_L (b : Nat) (H : Hp) (ad v : AV) (hb : H b = some (.row Tb [[ad, v]])) (had : ad = .nilp ∨ ad = .ptr b 0 0) : CallL Tryz.prog F_strings_Builder_copyCheck [.ptr b 0 0] H fun r H' => r = .ret (.tup []) ∧ H' = H.set b (.row Tb [[.ptr b 0 0, v]]) := by
  refine K_strings_Builder_copyCheck (md := false) ?_
  refine ⟨_, _, _, _, hb, rfl, rfl, ?_⟩
  rcases had with rfl | rfl
  · refine ⟨_, _, _, hb, rfl, Nat.zero_lt_succ _, ?_⟩
    refine ⟨_, hb, Nat.zero_lt_succ _, ?_⟩
    refine ⟨_, _, _, hb, rfl, rfl, rfl, rfl, Nat.le_succ _, ?_⟩
    exact ⟨rfl, rfl, rfl⟩
  · refine ⟨_, _, _, _, hb, rfl, rfl, ?_⟩
    refine ⟨Nat.beq_refl b, rfl, ?_⟩
    exact ⟨rfl, rfl, (Hp.set_self hb).symm⟩

theorem WriteString_L (h0 : Hp) (b : Nat) (H : Hp) (t s : Str) (hB : Bu h0 b H t) (hl : t.length + s.length ≤ 100000000000) : CallL Tryz.prog F_strings_Builder_WriteString [.ptr b 0 0, .str s] H fun r H' => r = .ret (.tup [.int .i64 s.length, .nili]) ∧ Bu h0 b H' (t ++ s) := by
  obtain ⟨hb0, ad, v, hb, had, hv, ha⟩ := hB
  refine K_strings_Builder_WriteString (md := false) ?_
  refine (copyCheck_L b H ad v hb had).mono ?_
  rintro r H1 ⟨rfl, rfl⟩
  have hset : (H.set b (.row Tb [[.ptr b 0 0, v]])).m b = some (.row Tb [[.ptr b 0 0, v]]) := Hp.set_same _ _ _
  have ha1 : Acc Tu h0 (H.set b (.row Tb [[.ptr b 0 0, v]])) v (bys t) := by
    refine ⟨ha.1.set hb0 _, ?_⟩
    rcases ha.2 with h | ⟨j, row, rfl, h2, h3, h4⟩
    · exact .inl h
    · exact .inr ⟨j, row, rfl, h2, (Hp.set_ne fun e => hv (by rw [e]; rfl)).trans h3, h4⟩
  refine ⟨_, _, _, _, hset, rfl, rfl, ?_⟩
  refine ⟨bys s, rfl, ?_⟩
  refine Acc.app ha1 (bys_one s) (bys_flat s) (by rw [bys_len, bys_len]; unfold capMax; omega) (by rw [bys_len, bys_len]; unfold capMax; omega) fun v' H' ha' hfr hu => ?_
  have hb' : H' b = some (.row Tb [[.ptr b 0 0, v]]) := (hfr b (Hp.used hset) hv).trans hset
  have hv' : blkOf v' ≠ some b := fun e => by
    rcases ha'.2 with ⟨rfl, _⟩ | ⟨j, row, rfl, h2, h3, _⟩
    · cases e
    · cases e
      rw [hb'] at h3
      injection h3 with h3
      injection h3 with h3 _
      exact absurd h3 (by decide)
  have hfl : flat [v'] = true := by rcases ha'.shape with rfl | ⟨j, n, rfl⟩ <;> rfl
  have hnt : notTup v' = true := by rcases ha'.shape with rfl | ⟨j, n, rfl⟩ <;> rfl
  have hc : v'.cells = [v'] := by rcases ha'.shape with rfl | ⟨j, n, rfl⟩ <;> rfl
  refine ⟨_, _, _, hb', rfl, hnt, by show v'.cells.length = 1; rw [hc]; rfl, by show flat v'.cells = true; rw [hc]; exact hfl, Nat.le_refl _, ?_⟩
  refine ⟨rfl, rfl, hb0, .ptr b 0 0, v', ?_, .inr rfl, hv', ?_⟩
  · rw [Hp.set_same]
    show some (Blk.row Tb [[.ptr b 0 0] ++ v'.cells ++ []]) = _
    rw [hc]; rfl
  · rw [bys_app]
    refine ⟨ha'.1.set hb0 _, ?_⟩
    rcases ha'.2 with h | ⟨j, row, rfl, h2, h3, h4⟩
    · exact .inl h
    · exact .inr ⟨j, row, rfl, h2, (Hp.set_ne fun e => hv' (by rw [e]; rfl)).trans h3, h4⟩

theorem String_L (h0 : Hp) (b : Nat) (H : Hp) (t : Str) (hB : Bu h0 b H t) (hne : t ≠ []) (hl : t.length ≤ 1000000000000) : CallL Tryz.prog F_strings_Builder_String [.ptr b 0 0] H fun r H' => r = .ret (.str t) := by
  obtain ⟨hb0, ad, v, hb, had, hv, ha⟩ := hB
  obtain ⟨c, t', rfl⟩ : ∃ c t', t = c :: t' := by cases t with
    | nil => exact absurd rfl hne
    | cons c t => exact ⟨c, t, rfl⟩
  obtain ⟨j, row, rfl, h1, h2, h3, h4⟩ := ha.slc (by simp [bys])
  refine K_strings_Builder_String (md := false) ?_
  refine ⟨_, _, _, _, hb, rfl, rfl, ?_⟩
  refine ⟨by rw [bys_len]; simp, ?_⟩
  refine ⟨_, _, _, _, hb, rfl, rfl, ?_⟩
  refine ⟨(bys (c :: t')).length, rfl, ?_⟩
  refine ⟨row, c :: t', h2, by rw [Nat.zero_add]; exact h4, by have := bys_len (c :: t'); simp at this hl ⊢; omega, ?_, ?_⟩
  · show bytesL ((row.drop 0).take (bys (c :: t')).length) = _
    rw [List.drop_zero, h3]; exact bytesL_bys _
  exact ⟨rfl, rfl⟩

theorem Grow_L (h0 : Hp) (b n : Nat) (H : Hp) (hb0 : h0.u b = false) (hg : Gr h0 H) (hb : H b = some (.row Tb [[.nilp, .nils]])) (hn : 0 < n) (hn2 : n ≤ 100000000000) : CallL Tryz.prog F_strings_Builder_Grow [.ptr b 0 0, .int .i64 n] H fun r H' => r = .ret (.tup []) ∧ Bu h0 b H' [] := by
  refine K_strings_Builder_Grow (md := false) ?_
  refine (copyCheck_L b H .nilp .nils hb (.inl rfl)).mono ?_
  rintro r H1 ⟨rfl, rfl⟩
  have hset : (H.set b (.row Tb [[.ptr b 0 0, .nils]])).m b = some (.row Tb [[.ptr b 0 0, .nils]]) := Hp.set_same _ _ _
  refine s_lt (fun h1 => by omega) (fun _ => ?_)
  refine ⟨_, _, _, _, hset, rfl, rfl, ?_⟩
  refine ⟨_, _, _, _, hset, rfl, rfl, ?_⟩
  refine s_nat 0 (by omega) (by omega) ?_
  refine s_lt (fun _ => ?_) (fun h1 => by omega)
  refine K_strings_Builder_grow (md := false) ?_
  refine ⟨_, _, _, _, hset, rfl, rfl, ?_⟩
  refine s_nat 0 (by omega) (by omega) ?_
  refine s_nat n (by omega) (by omega) ?_
  refine ⟨_, _, _, _, hset, rfl, rfl, ?_⟩
  refine ⟨n, rfl, by omega, fun i hi => ?_⟩
  have hbi : b ≠ i := ne_of_u (Hp.used hset) hi.1
  have hib : (((H.set b (.row Tb [[.ptr b 0 0, .nils]])).set i (.row Tu []))).m b = some (.row Tb [[.ptr b 0 0, .nils]]) := (Hp.set_ne hbi).trans hset
  refine ⟨⟨_, Hp.set_same _ _ _⟩, 0, rfl, Nat.le_refl _, Nat.zero_le _, ?_⟩
  refine ⟨_, _, _, _, hib, rfl, rfl, ?_⟩
  refine ⟨[], [], Hp.set_same _ _ _, rfl, Nat.le_refl _, (fun cs h => by cases h), (fun cs h => by cases h), Nat.le_refl _, .inr rfl, ?_⟩
  have hib2 : ((((H.set b (.row Tb [[.ptr b 0 0, .nils]])).set i (.row Tu []))).set i (.row Tu [])).m b = some (.row Tb [[.ptr b 0 0, .nils]]) := (Hp.set_ne hbi).trans hib
  refine ⟨_, _, _, hib2, rfl, rfl, rfl, rfl, Nat.le_refl _, ?_⟩
  have hi0 : h0.u i = false := (hg.set hb0 (.row Tb [[.ptr b 0 0, .nils]])).new hi.1
  refine ⟨rfl, rfl, rfl, hb0, .ptr b 0 0, .slc i 0 0 none, Hp.set_same _ _ _, .inr rfl, fun e => hbi (by cases e; rfl), ?_, .inr ⟨i, [], rfl, hi0, ?_, rfl, Nat.le_refl _⟩⟩
  · exact (((hg.set hb0 _).set hi0 _).set hi0 _).set hb0 _
  · exact (Hp.set_ne (Ne.symm hbi)).trans (Hp.set_same _ _ _)

/-- How long texts are. -/
def tlen (l : List Str) : Nat := (l.map List.length).sum
theorem tlen_snoc (l : List Str) (x : Str) : tlen (l ++ [x]) = tlen l + x.length := by simp [tlen]
theorem tlen_le {B : Nat} : ∀ {l : List Str}, (∀ s ∈ l, s.length ≤ B) → tlen l ≤ l.length * B
  | [], _ => Nat.zero_le _
  | x :: l, h => by
    have h1 := h x List.mem_cons_self
    have h2 := tlen_le (l := l) fun s hs => h s (List.mem_cons_of_mem _ hs)
    simp only [tlen, List.map_cons, List.sum_cons, List.length_cons, Nat.add_mul] at h2 ⊢
    omega

theorem joinSum (g : Nat) (l : List Str) (m : Nat) (hl : l.length ≤ 1000) (hm : m ≤ 1000) (hp : ∀ s ∈ l, s.length ≤ 1000000) (c : Str) (H : Hp) (e : Env) (Q : Xit → Env → Hp → Prop) (hd : e.ds = [])
    (hs : Has e [(0, .isl g (tx l)), (1, .str c), (5, .int .i64 m), (39, .isl g (tx l)), (40, .int .i64 (tx l).length), (41, .int .i64 (0 : Nat))])
    (hQ : ∀ e', e'.ds = [] → Has e' [(0, .isl g (tx l)), (1, .str c), (5, .int .i64 (m + tlen l : Nat))] → Q (.exit 1) e' H) : LCode Tryz.prog false (.loop A_strings_Join_14) Q e H := by
  have htl := tx_len l
  refine s_loop l.length (fun k (_ : Unit) => k ≤ l.length) (fun k _ => [(0, .isl g (tx l)), (1, .str c), (5, .int .i64 (m + tlen (l.take k) : Nat)), (39, .isl g (tx l)), (40, .int .i64 (tx l).length), (41, .int .i64 k)]) (fun _ _ => H) () (Nat.zero_le _) rfl hd hs (fun k s hI => hI) ?_
  intro k _ n0 g0 hk _
  have hb := tlen_le (B := 1000000) (l := l.take k) fun s hs => hp s (List.mem_of_mem_take hs)
  rw [List.length_take] at hb
  refine s_lt (fun h1 => ?_) (fun h1 => ?_)
  · obtain ⟨x, hx⟩ := get_lt (l := l) (k := k) (by omega)
    have hxl := hp x (List.mem_of_getElem? hx)
    have hst := tlen_snoc (l.take k) x
    rw [← List.take_succ_of_get hx] at hst
    refine s_at k x rfl hx rfl (by decide) ?_
    refine ⟨_, rfl, ?_⟩
    refine s_64 (by omega) (by omega) ?_
    refine s_lt (fun h2 => by omega) (fun _ => ?_)
    refine s_nat (m + tlen (l.take (k + 1))) (by omega) (by omega) ?_
    refine s_nat (k + 1) (by omega) (by omega) ?_
    exact ⟨(), by omega, by omega, rfl, rfl, rfl, rfl, rfl, rfl, rfl, rfl, trivial⟩
  · obtain rfl : k = l.length := by omega
    rw [List.take_length] at *
    exact hQ _ rfl ⟨rfl, rfl, rfl, trivial⟩

theorem joinWrite (h0 : Hp) (b g : Nat) (x : Str) (r : List Str) (hl : r.length ≤ 1000) (hp : ∀ s ∈ x :: r, s.length ≤ 1000000) (H : Hp) (hB : Bu h0 b H x) (e : Env) (Q : Xit → Env → Hp → Prop) (hd : e.ds = [])
    (hs : Has e [(1, .str [44]), (8, .ptr b 0 0), (63, .isl g (tx r)), (64, .int .i64 (tx r).length), (65, .int .i64 (0 : Nat))])
    (hQ : ∀ e' H', e'.ds = [] → Has e' [(8, .ptr b 0 0)] → Bu h0 b H' (joinC 44 (x :: r)) → Q (.exit 3) e' H') : LCode Tryz.prog false (.loop A_strings_Join_22) Q e H := by
  have htl := tx_len r
  refine s_loop r.length (fun k (s : Hp) => k ≤ r.length ∧ Bu h0 b s (joinC 44 (x :: r.take k))) (fun k _ => [(1, .str [44]), (8, .ptr b 0 0), (63, .isl g (tx r)), (64, .int .i64 (tx r).length), (65, .int .i64 k)]) (fun _ s => s) H ⟨Nat.zero_le _, hB⟩ rfl hd hs (fun k s hI => hI.1) ?_
  rintro k H1 n0 g0 hk ⟨_, hB1⟩
  have hb := joinC_len (c := 44) (B := 1000000) (l := x :: r.take k) fun s hs => by
    rcases List.mem_cons.1 hs with rfl | hs
    · exact hp _ List.mem_cons_self
    · exact hp s (List.mem_cons_of_mem _ (List.mem_of_mem_take hs))
  rw [List.length_cons, List.length_take] at hb
  refine s_lt (fun h1 => ?_) (fun h1 => ?_)
  · obtain ⟨y, hy⟩ := get_lt (l := r) (k := k) (by omega)
    have hyl := hp y (List.mem_cons_of_mem _ (List.mem_of_getElem? hy))
    refine s_at k y rfl hy rfl (by decide) ?_
    refine ⟨_, rfl, ?_⟩
    refine (WriteString_L h0 b H1 _ [44] hB1 (by simp; omega)).mono ?_
    rintro _ H2 ⟨rfl, hB2⟩
    refine (WriteString_L h0 b H2 _ y hB2 (by simp; omega)).mono ?_
    rintro _ H3 ⟨rfl, hB3⟩
    refine s_nat (k + 1) (by omega) (by omega) ?_
    refine ⟨H3, by omega, ⟨by omega, ?_⟩, rfl, rfl, rfl, rfl, rfl, rfl, rfl, trivial⟩
    have e1 : x :: r.take (k + 1) = (x :: r.take k) ++ [y] := by rw [List.take_succ_of_get hy]; rfl
    rw [e1, joinC_snoc 44 _ _ (by simp)]
    have e2 : joinC 44 (x :: r.take k) ++ [44] ++ y = joinC 44 (x :: r.take k) ++ 44 :: y := by simp
    rw [← e2]; exact hB3
  · obtain rfl : k = r.length := by omega
    rw [List.take_length] at hB1
    exact hQ _ _ rfl ⟨rfl, trivial⟩ hB1

theorem Join_L (g : Nat) (l : List Str) (hl : l.length ≤ 1000) (hp : ∀ s ∈ l, s.length ≤ 1000000) : PureL Tryz.prog F_strings_Join [.isl g (tx l), .str [44]] (.str (joinC 44 l)) := by
  have htl := tx_len l
  refine PureL.nil (by simp [noids, noid, anyMark, noidss_tx]) ?_
  refine K_strings_Join (md := false) ?_
  refine s_eq (fun h1 => ?_) (fun h1 => ?_)
  · have : l = [] := List.eq_nil_of_length_eq_zero (by omega)
    subst this; exact ⟨rfl, _, rfl, .same _ rfl⟩
  refine s_eq (fun h2 => ?_) (fun h2 => ?_)
  · obtain ⟨x, rfl⟩ := List.length_eq_one_iff.1 (show l.length = 1 by omega)
    refine s_at 0 x rfl rfl rfl (by decide) ?_
    refine ⟨_, rfl, ?_⟩
    exact ⟨rfl, _, rfl, .same _ rfl⟩
  obtain ⟨x, r, rfl⟩ : ∃ x r, l = x :: r := by cases l with
    | nil => exact absurd rfl h1
    | cons x r => exact ⟨x, r, rfl⟩
  have hrl : (x :: r).length = r.length + 1 := rfl
  have hxl := hp x List.mem_cons_self
  refine s_lt (fun _ => ?_) (fun h3 => by simp at h3)
  refine s_nat r.length (by omega) (by omega) ?_
  have hr0 : (0 : Int) < (r.length : Nat) := by omega
  refine ⟨by omega, ?_⟩
  have hq1 : (1000 : Int) ≤ (9223372036854775807 : Int).tdiv (r.length : Nat) := by
    rw [Int.tdiv_eq_ediv_of_nonneg (by decide)]
    refine (Int.le_ediv_iff_mul_le hr0).2 ?_
    omega
  have hq2 : (9223372036854775807 : Int).tdiv (r.length : Nat) ≤ 9223372036854775807 := by
    rw [Int.tdiv_eq_ediv_of_nonneg (by decide)]
    exact Int.ediv_le_self _ (by decide)
  refine s_64 (by omega) hq2 ?_
  refine s_le (fun h3 => by simp at h3; omega) (fun _ => ?_)
  refine s_nat r.length (by omega) (by omega) ?_
  refine s_nat r.length (by simp) (by omega) ?_
  refine s_nat r.length (by simp) (by omega) ?_
  refine s_blk (id := 1) (fun e' h' => h' = Hp.nil ∧ e'.ds = [] ∧ Has e' [(0, .isl g (tx (x :: r))), (1, .str [44]), (5, .int .i64 (r.length + tlen (x :: r) : Nat))]) ?_ ?_
  · exact joinSum g (x :: r) r.length hl (by omega) hp [44] _ _ _ rfl ⟨rfl, rfl, rfl, rfl, rfl, rfl, trivial⟩ fun e' h1 h2 => ⟨rfl, h1, h2⟩
  rintro e' h' ⟨rfl, hd, hs⟩
  obtain ⟨n0, g0, rfl⟩ := hs.out hd
  clear hd hs
  have hb := tlen_le (B := 1000000) hp
  refine ⟨rfl, rfl, fun b hb1 => ?_⟩
  have hb0 : Hp.nil.u b = false := rfl
  refine (Grow_L Hp.nil b (r.length + tlen (x :: r)) _ hb0 ((Gr.refl _).set hb0 _) (Hp.set_same _ _ _) (by omega) (by omega)).mono ?_
  rintro _ H1 ⟨rfl, hB1⟩
  refine s_at 0 x rfl rfl rfl (by decide) ?_
  refine ⟨_, rfl, ?_⟩
  refine (WriteString_L Hp.nil b H1 [] x hB1 (by simp; omega)).mono ?_
  rintro _ H2 ⟨rfl, hB2⟩
  refine ⟨tx_one _, 1, rfl, by show 1 ≤ (tx (x :: r)).length; omega, Nat.le_refl _, Nat.le_refl _, .inr ?_⟩
  have e1 : ((tx (x :: r)).take (tx (x :: r)).length).drop 1 = tx r := by rw [List.take_length]; rfl
  rw [e1]
  refine s_blk (id := 3) (fun e' H' => e'.ds = [] ∧ Has e' [(8, .ptr b 0 0)] ∧ Bu Hp.nil b H' (joinC 44 (x :: r))) ?_ ?_
  · exact joinWrite Hp.nil b g x r (by omega) hp H2 hB2 _ _ rfl ⟨rfl, rfl, rfl, rfl, rfl, trivial⟩ fun e' H' h1 h2 h3 => ⟨h1, h2, h3⟩
  rintro e' H3 ⟨hd3, hs3, hB3⟩
  obtain ⟨n3, g3, rfl⟩ := hs3.out hd3
  have hjl := joinC_len (c := 44) (B := 1000000) hp
  have hne : joinC 44 (x :: r) ≠ [] := by
    cases r with
    | nil => simp at hr0
    | cons y r => simp [joinC]
  refine (String_L Hp.nil b H3 _ hB3 hne (by omega)).mono ?_
  rintro _ H4 rfl
  exact ⟨rfl, _, rfl, .same _ rfl⟩

theorem HasBody.print1 : HasBody Tryz.prog F_mask_Print_c1 := ⟨_, Tryz.func63, by kernel_rfl, by kernel_rfl⟩
theorem Print1_L (s : Str) (hs : s.length ≤ 1000000000000) : PureL Tryz.prog F_mask_Print_c1 [.str s] (.bool (!isPath s)) := by
  intro h
  refine K_mask_Print_c1 (md := false) ?_
  refine (isPath_L s hs).use ?_
  exact ⟨rfl, rfl, rfl⟩
theorem Print_L (g : Nat) (l : List Str) (hl : l.length ≤ 1000) (hp : ∀ s ∈ l, s.length ≤ 1000000) : PureL Tryz.prog F_mask_Print [.isl g (tx l)] (printV l) := by
  intro h
  refine K_mask_Print (md := false) ?_
  refine (ContainsFunc_L g l F_mask_Print_c1 [] [] (fun s => !isPath s) HasBody.print1 h (fun x hx => Print1_L x (by have := hp x hx; omega) h) (by omega)).mono ?_
  rintro _ h' ⟨rfl, rfl⟩
  have key : (l.any fun s => !isPath s) = !(l.all isPath) := by simp [List.all_eq_not_any_not]
  rw [key]
  cases hall : l.all isPath with
  | false => exact ⟨rfl, by rw [printV, printS, hall]; rfl, rfl⟩
  | true =>
    refine (Join_L g l hl hp).use ?_
    exact ⟨rfl, by rw [printV, printS, hall]; rfl, rfl⟩
end Go.Proofs.YtibdeeejjbmgcaaGreatDoor
