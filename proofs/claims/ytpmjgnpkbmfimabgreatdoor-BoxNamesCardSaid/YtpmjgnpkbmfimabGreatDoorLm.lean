/-
  The logic L, part m: operations one behind the other; regions; code.
-/
import Derived.Test.YtpmjgnpkbmfimabGreatDoorLl
namespace Go.L

theorem LOp_N {P : Program} {md : Bool} {o : AOp} {e : Env} {h : Hp} {next X : AV → Hp → Prop} (hn : isN o = true) (hl : LOp P md o e h next X) : LN o e h fun v => next v h := by
  cases o <;> first | exact hl | cases hn

theorem LN_LOp {P : Program} {md : Bool} {o : AOp} {e : Env} {h : Hp} {next X : AV → Hp → Prop} (hn : isN o = true) (hl : LN o e h fun v => next v h) : LOp P md o e h next X := by
  cases o <;> first | exact hl | cases hn

section
variable {P : Program} {ro : Option Nat} {md : Bool} {o : Oper} {ao : AOp} {e : Env} {h : Hp} {next : AV → Prop}

theorem LN_sound (hc : compN P o = some ao) (hl : LN ao e h next) : ∃ v, next v ∧ SemVal P o e h v := by
  unfold compN at hc
  split at hc
  case h_1 x ho => obtain ⟨y, hy, rfl⟩ := Option.map_some_inv hc; exact LN_mov (.inl ho) hy hl
  case h_2 x ho => obtain ⟨y, hy, rfl⟩ := Option.map_some_inv hc; exact LN_mov (.inr ho) hy hl
  case h_3 c a b ho =>
    obtain ⟨c', h1, hc⟩ := Option.bind_some_inv hc
    obtain ⟨a', h2, hc⟩ := Option.bind_some_inv hc
    obtain ⟨b', h3, hc⟩ := Option.bind_some_inv hc
    cases hc; exact LN_pick ho h1 h2 h3 hl
  case h_4 op xt x y u ho =>
    obtain ⟨d, hd, hc⟩ := Option.bind_some_inv hc
    split at hc
    · obtain ⟨x', h1, hc⟩ := Option.bind_some_inv hc
      obtain ⟨y', h2, hc⟩ := Option.bind_some_inv hc
      cases hc; exact LN_bini ho h1 h2 hl
    · split at hc
      · obtain ⟨x', h1, hc⟩ := Option.bind_some_inv hc
        obtain ⟨y', h2, hc⟩ := Option.bind_some_inv hc
        cases hc; exact LN_bins ho h1 h2 hl
      · split at hc
        · rename_i hb
          obtain ⟨x', h1, hc⟩ := Option.bind_some_inv hc
          obtain ⟨y', h2, hc⟩ := Option.bind_some_inv hc
          have hd' : d = .bool := by cases d <;> first | rfl | cases hb
          cases hc; exact LN_binb ho (hd' ▸ hd) h1 h2 hl
        · cases hc
  case h_5 t x ho => obtain ⟨y, hy, rfl⟩ := Option.map_some_inv hc; exact LN_not ho hy hl
  case h_6 t x ho => obtain ⟨y, hy, rfl⟩ := Option.map_some_inv hc; exact LN_neg ho hy hl
  case h_7 x i ho => obtain ⟨y, hy, rfl⟩ := Option.map_some_inv hc; exact LN_ext ho hy hl
  case h_8 t x f ho =>
    obtain ⟨d0, ht, hc⟩ := Option.bind_some_inv hc
    split at hc <;> first | cases hc | skip
    rename_i fs
    obtain ⟨fd, hf, hc⟩ := Option.bind_some_inv hc
    obtain ⟨d, hd, hc⟩ := Option.bind_some_inv hc
    obtain ⟨i, hi, hc⟩ := Option.bind_some_inv hc
    split at hc
    · rename_i ha
      obtain ⟨x', h1, hc⟩ := Option.bind_some_inv hc
      cases hc; exact LN_flda ho ht hf hd hi ha h1 hl
    · rename_i ha
      obtain ⟨x', h1, hc⟩ := Option.bind_some_inv hc
      cases hc; exact LN_fld ho ht hf hd (by simpa using ha) h1 hl
  case h_9 s t x ho =>
    obtain ⟨d0, ht, hc⟩ := Option.bind_some_inv hc
    split at hc <;> first | cases hc | skip
    rename_i k
    obtain ⟨ds, hs, hc⟩ := Option.bind_some_inv hc
    obtain ⟨x', h1, hc⟩ := Option.bind_some_inv hc
    cases hc; exact LN_conv ho ht hs h1 hl
  case h_10 t x i ho =>
    obtain ⟨d0, ht, hc⟩ := Option.bind_some_inv hc
    split at hc <;> first | cases hc | skip
    obtain ⟨x', h1, hc⟩ := Option.bind_some_inv hc
    obtain ⟨i', h2, hc⟩ := Option.bind_some_inv hc
    cases hc; exact LN_idxs ho ht h1 h2 hl
  case h_11 t x lo hi ho =>
    obtain ⟨d0, ht, hc⟩ := Option.bind_some_inv hc
    split at hc <;> first | cases hc | skip
    obtain ⟨x', h1, hc⟩ := Option.bind_some_inv hc
    obtain ⟨lo', h2, hc⟩ := Option.bind_some_inv hc
    obtain ⟨hi', h3, hc⟩ := Option.bind_some_inv hc
    cases hc; exact LN_slcs ho ht h1 h2 h3 hl
  case h_12 t x i ho =>
    obtain ⟨d0, ht, hc⟩ := Option.bind_some_inv hc
    split at hc <;> first | cases hc | skip
    obtain ⟨j, hj, hc⟩ := Option.bind_some_inv hc
    obtain ⟨x', h1, hc⟩ := Option.bind_some_inv hc
    obtain ⟨i', h2, hc⟩ := Option.bind_some_inv hc
    cases hc; exact LN_iaddr ho ht hj h1 h2 hl
  case h_13 t x f ho =>
    obtain ⟨d0, ht, hc⟩ := Option.bind_some_inv hc
    split at hc <;> first | cases hc | skip
    obtain ⟨fd, hf, hc⟩ := Option.bind_some_inv hc
    obtain ⟨i, hi, hc⟩ := Option.bind_some_inv hc
    split at hc
    · cases hc
    · rename_i h0
      obtain ⟨x', h1, hc⟩ := Option.bind_some_inv hc
      cases hc; exact LN_faddr ho ht hf hi h0 h1 hl
  case h_14 x ho => obtain ⟨y, hy, rfl⟩ := Option.map_some_inv hc; exact LN_nilc ho hy hl
  case h_15 t x ho =>
    obtain ⟨d, hd, hc⟩ := Option.bind_some_inv hc
    obtain ⟨i, hi, hc⟩ := Option.bind_some_inv hc
    split at hc
    · rename_i ha
      obtain ⟨x', h1, hc⟩ := Option.bind_some_inv hc
      cases hc; exact LN_lda ho hd hi ha h1 hl
    · rename_i ha
      obtain ⟨x', h1, hc⟩ := Option.bind_some_inv hc
      cases hc; exact LN_ld1 ho hd (by simpa using ha) h1 hl
  case h_16 t x ho =>
    obtain ⟨d, hd, hc⟩ := Option.bind_some_inv hc
    split at hc <;> first | cases hc | skip
    rename_i hne
    obtain ⟨x', h1, hc⟩ := Option.bind_some_inv hc
    cases hc; exact LN_mkifc ho hd hne h1 hl
  case h_17 f first cap ho =>
    obtain ⟨y', h0, hc⟩ := Option.bind_some_inv hc
    obtain ⟨x', h1, hc⟩ := Option.bind_some_inv hc
    cases hc; exact LN_mkfn ho h0 h1 hl
  case h_18 t parts ho =>
    obtain ⟨z, hz, hc⟩ := Option.bind_some_inv hc
    obtain ⟨d, hd, hc⟩ := Option.bind_some_inv hc
    split at hc <;> first | cases hc | skip
    · obtain ⟨pl, hpl, hc⟩ := Option.bind_some_inv hc
      obtain ⟨ps, hps, hc⟩ := Option.bind_some_inv hc
      cases hc; exact LN_build ho hz hd (.inl ⟨_, _, rfl, hpl, hps⟩) hl
    · obtain ⟨j, hj, hc⟩ := Option.bind_some_inv hc
      obtain ⟨ps, hps, hc⟩ := Option.bind_some_inv hc
      cases hc; exact LN_build ho hz hd (.inr ⟨_, _, j, rfl, hj, hps⟩) hl
  case h_19 args ts ho =>
    obtain ⟨t, ht0, hc⟩ := Option.bind_some_inv hc
    obtain ⟨d, hd, hc⟩ := Option.bind_some_inv hc
    have ha : ∀ y, args.toList = [y] → args = #[y] := fun y hy => by rw [← Array.toArray_toList (xs := args), hy]
    split at hc <;> first | cases hc | skip
    · rename_i y hy
      obtain ⟨x', h1, hc⟩ := Option.bind_some_inv hc
      rw [ha _ hy] at ho
      cases hc; exact LN_lens ho ht0 hd h1 hl
    · rename_i el y hy
      obtain ⟨x', h1, hc⟩ := Option.bind_some_inv hc
      rw [ha _ hy] at ho
      cases hc; exact LN_lenl ho ht0 hd h1 hl
  case h_20 => cases hc
end

section
variable {P : Program} {ro : Option Nat} {md : Bool} {o : Oper} {ao : AOp} {e : Env} {h : Hp} {next X : AV → Hp → Prop} {σ : Emb} {M : Mem} {w : World} {a : Act} {nx : Act → World → Prop} {Qx : Exit → Act → World → Prop}

theorem LOp_sound1 (hc : comp1 P o = some ao) (hR : R P σ M h w) (hA : ActR σ M e a) (hN : NextS P σ M w a o.dst next nx) (hP : PanS P σ M w a X Qx) (hl : LOp P md ao e h next X) : o.wpIn (fw ro) 0 P a w nx Qx := by
  unfold comp1 at hc
  cases hE : compE P o with
  | none =>
    rw [hE] at hc
    simp only at hc
    split at hc <;> first | cases hc | skip
    rename_i b hb
    split at hc <;> first | cases hc | skip
    rename_i hn
    exact op_read hR hA hN (LN_sound hb (LOp_N hn hl))
  | some b =>
    rw [hE] at hc
    simp only [Option.some.injEq] at hc
    subst hc
    have hc := hE; clear hE
    unfold compE at hc
    split at hc
    case h_1 args ts ho =>
      obtain ⟨t, ht0, hc⟩ := Option.bind_some_inv hc
      obtain ⟨u, hu0, hc⟩ := Option.bind_some_inv hc
      obtain ⟨d, hd, hc⟩ := Option.bind_some_inv hc
      split at hc <;> first | cases hc | skip
      rename_i el
      obtain ⟨du, hdu, hc⟩ := Option.bind_some_inv hc
      obtain ⟨j, hj, hc⟩ := Option.bind_some_inv hc
      obtain ⟨z, hz, hc⟩ := Option.bind_some_inv hc
      split at hc
      · cases hc
      · rename_i hcond
        split at hc <;> first | cases hc | skip
        rename_i sx xx hargs
        obtain ⟨s', h1, hc⟩ := Option.bind_some_inv hc
        obtain ⟨x', h2, hc⟩ := Option.bind_some_inv hc
        cases hc
        simp only [Bool.or_eq_true, not_or, Bool.not_eq_true, bne_eq_false_iff_eq, beq_eq_false_iff_ne, ne_eq] at hcond
        obtain ⟨⟨⟨c1, c2⟩, c3⟩, c4⟩ := hcond
        have ha : args = #[sx, xx] := by rw [← Array.toArray_toList (xs := args), hargs]
        have hts : ts = #[t, u] := by
          apply Array.ext
          · simp [c2]
          · intro i h1 h2
            have : i = 0 ∨ i = 1 := by simp at h2; omega
            rcases this with rfl | rfl
            · rw [Array.getElem?_eq_getElem h1] at ht0; simpa using ht0
            · rw [Array.getElem?_eq_getElem h1] at hu0; simpa using hu0
        subst ha
        exact op_app ho hts hd hdu (fun k hk => by subst hk; simp [intD] at c1) hj hz (Nat.pos_of_ne_zero c3) c4 h1 h2 hR hA hN hl
    case h_2 t x v ho =>
      obtain ⟨i, hi, hc⟩ := Option.bind_some_inv hc
      obtain ⟨x', h1, hc⟩ := Option.bind_some_inv hc
      obtain ⟨v', h2, hc⟩ := Option.bind_some_inv hc
      cases hc; exact op_st ho hi h1 h2 hR hA hN hl
    case h_3 t x ho =>
      obtain ⟨i, hi, hc⟩ := Option.bind_some_inv hc
      obtain ⟨x', h1, hc⟩ := Option.bind_some_inv hc
      cases hc; exact op_box ho hi h1 hR hA hN hl
    case h_4 t ho =>
      obtain ⟨i, hi, hc⟩ := Option.bind_some_inv hc
      obtain ⟨z, hz, hc⟩ := Option.bind_some_inv hc
      obtain ⟨x', h1, hc⟩ := Option.bind_some_inv hc
      cases hc; exact op_alloc ho hi hz h1 hR hN hl
    case h_5 t n parts ho =>
      obtain ⟨d, hd, hc⟩ := Option.bind_some_inv hc
      split at hc <;> first | cases hc | skip
      obtain ⟨j, hj, hc⟩ := Option.bind_some_inv hc
      obtain ⟨z, hz, hc⟩ := Option.bind_some_inv hc
      split at hc
      · cases hc
      · rename_i hcond
        obtain ⟨ps, h1, hc⟩ := Option.bind_some_inv hc
        cases hc
        simp only [Bool.or_eq_true, not_or, Bool.not_eq_true, decide_eq_false_iff_not, bne_eq_false_iff_eq, beq_eq_false_iff_ne, ne_eq, decide_eq_true_eq] at hcond
        exact op_bslice ho hd hj hz hcond.1.1 hcond.1.2 hcond.2 h1 hR hA hN hl
    case h_6 f args ts ho =>
      obtain ⟨fn, hf, hc⟩ := Option.bind_some_inv hc
      split at hc
      · rename_i hcond
        obtain ⟨x', h1, hc⟩ := Option.bind_some_inv hc
        cases hc
        simp only [Bool.and_eq_true] at hcond
        exact op_call ho hf hcond.1 (by simpa using hcond.2) h1 hR hA hN hP hl
      · cases hc
    case h_7 => cases hc
end
end Go.L
