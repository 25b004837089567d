/- CONTRACT of places' Violates. -/
import Derived.Test.YtmpkbolabdmkkaaPlL
import Derived.Test.YtmpkbolabdmkkaaPlM
namespace Go.Proofs.Ytmpkbolabdmkkaa
open Go.RowKit

theorem cUp_congr {d d' : Array Int} {m : Nat} (h : ∀ j, j < m → d[j]! = d'[j]!) : Lib.compactUpTo d m = Lib.compactUpTo d' m := by
  induction m with
  | zero => rfl
  | succ m ih =>
    rw [Lib.compactUpTo_succ, Lib.compactUpTo_succ, ih (fun j hj => h j (by omega))]
    have e : Lib.keeps d m = Lib.keeps d' m := by
      unfold Lib.keeps
      by_cases hm : m = 0
      · simp [hm]
      · rw [h m (by omega), h (m - 1) (by omega)]
    rw [e, h m (by omega)]
theorem compL_snoc (l : List Int) (a : Int) : compL (l ++ [a]) = if l.getLast? = some a then compL l else compL l ++ [a] := by
  unfold compL
  have e : (l ++ [a]).toArray.size = l.length + 1 := by simp
  rw [e, Lib.compactUpTo_succ]
  have e2 : Lib.compactUpTo (l ++ [a]).toArray l.length = Lib.compactUpTo l.toArray l.toArray.size := by
    have : l.toArray.size = l.length := by simp
    rw [this]
    refine cUp_congr fun j hj => ?_
    simp [List.getElem?_append_left hj]
  rw [e2]
  have e3 : (l ++ [a]).toArray[l.length]! = a := by simp
  rw [e3]
  by_cases hl : l.getLast? = some a
  · rw [if_pos hl]
    have hk : Lib.keeps (l ++ [a]).toArray l.length = false := by
      have h0 : 0 < l.length := by cases l with
        | nil => cases hl
        | cons _ _ => simp
      refine Lib.keeps_neg h0 ?_
      rw [e3]
      rw [List.getLast?_eq_getElem?] at hl
      simp [List.getElem?_append_left (show l.length - 1 < l.length by omega), hl]
    rw [hk]; simp
  · rw [if_neg hl]
    have hk : Lib.keeps (l ++ [a]).toArray l.length = true := by
      unfold Lib.keeps
      rw [decide_eq_true_iff]
      by_cases h0 : l.length = 0
      · exact .inl h0
      · refine .inr fun he => hl ?_
        rw [e3] at he
        rw [List.getLast?_eq_getElem?]
        rw [he]
        have h1 : l.length - 1 < l.length := by omega
        simp [List.getElem?_append_left h1, h1]
    rw [hk]; simp
theorem compL_last (l : List Int) : (compL l).getLast? = l.getLast? := by
  rcases List.eq_nil_or_concat l with rfl | ⟨l', a, rfl⟩
  · rfl
  · rw [List.concat_eq_append, compL_snoc]
    split
    · rename_i h
      rw [compL_last l', h]; simp
    · simp
termination_by l.length
/-- the items of the rules that a filling breaks -/
def itemsOf (p : Prob) (l : List Int) : List Int := l.map fun i => (nth p.rules i.toNat).item
theorem viol_comp (p : Prob) (f : List Int) : ∀ k, violTo p f k = compL (itemsOf p (breaksTo p f k))
  | 0 => rfl
  | k + 1 => by
    have ih := viol_comp p f k
    cases h : keepsB (nth p.rules k) f
    · rw [breaksTo_yes h]
      have e : itemsOf p (breaksTo p f k ++ [(k : Int)]) = itemsOf p (breaksTo p f k) ++ [(nth p.rules k).item] := by simp [itemsOf]
      rw [e, compL_snoc]
      show (if _ then _ else _) = _
      rw [ih, compL_last]
      simp [h]
    · rw [breaksTo_no h]
      show (if _ then _ else _) = _
      rw [if_pos (.inl h), ih]
theorem vio_comp (p : Prob) (f : List Int) : vioL p f = compL (itemsOf p (brkL p f)) := by
  unfold vioL brkL
  split
  · exact viol_comp p f _
  · rfl
theorem brkL_len (p : Prob) (f : List Int) : (brkL p f).length ≤ p.rules.length := by
  unfold brkL; split
  · exact breaksTo_len p f _
  · simp
theorem breaksTo_at (p : Prob) (f : List Int) : ∀ k i, i < (breaksTo p f k).length → 0 ≤ nth (breaksTo p f k) i ∧ nth (breaksTo p f k) i < k
  | 0, i, hi => absurd hi (Nat.not_lt_zero _)
  | k + 1, i, hi => by
    cases h : keepsB (nth p.rules k) f
    · rw [breaksTo_yes h] at hi ⊢
      by_cases hi' : i < (breaksTo p f k).length
      · have := breaksTo_at p f k i hi'
        have e : nth (breaksTo p f k ++ [(k : Int)]) i = nth (breaksTo p f k) i := by rw [nth_eq _ i hi, nth_eq _ i hi']; exact List.getElem_append_left hi'
        rw [e]; omega
      · have e : nth (breaksTo p f k ++ [(k : Int)]) i = k := by
          have e1 : i = (breaksTo p f k).length := by simp at hi; omega
          subst e1; rw [nth_eq _ _ hi]; simp
        rw [e]; omega
    · rw [breaksTo_no h] at hi ⊢
      have := breaksTo_at p f k i hi; omega
theorem brkL_at (p : Prob) (f : List Int) {i : Nat} (hi : i < (brkL p f).length) : 0 ≤ nth (brkL p f) i ∧ nth (brkL p f) i < p.rules.length := by
  unfold brkL at hi ⊢; split at hi
  · rename_i h; rw [if_pos h]; exact breaksTo_at p f _ i hi
  · exact absurd hi (Nat.not_lt_zero _)
theorem itemsOf_step (p : Prob) {l : List Int} {k : Nat} (hk : k < l.length) : itemsOf p (l.take (k + 1)) = itemsOf p (l.take k) ++ [(nth p.rules (nth l k).toNat).item] := by
  unfold itemsOf; rw [List.take_succ_eq_append_getElem hk, nth_eq l k hk, List.map_append]; rfl

set_option maxRecDepth 100000 in
set_option maxHeartbeats 1000000 in
theorem pViolates {W : World} (x : Later W) (v0 v1 v2 vf : Value) (p : Prob) (f : List Int) (hp : IsProb W v0 v1 v2 p) (hf : IsInts W vf f) :
    Calls Try.prog 39 #[.agg #[v0, v1, v2], vf] x.w (EndsIntsE W (vioL p f) (wrongC p f)) := by
  go_enter Try.func39, Try.ntmps39
  go_upto_region 1 with (fail)
  obtain ⟨W1, x1, e1, hb1, s1, p0, p1, p2⟩ := enter3 x v0 v1 v2 26
  rw [e1]; clear e1
  have HP := Lib.hid (hp.below hb1)
  have HF := Lib.hid (hf.below hb1)
  obtain ⟨ap, cp, rfl, lp, _⟩ := hp.panes.opened
  obtain ⟨ao, co, rfl, lo, _⟩ := hp.opts.opened
  obtain ⟨ar, cr, rfl, lr, hr⟩ := HP.out.rules.opened
  clear hp hf
  have hat := Lib.hid (fun i => @brkL_at p f i)
  have hle := brkL_len p f
  have hvio := Lib.hid (vio_comp p f)
  have hstep := Lib.hid (fun k => @itemsOf_step p (brkL p f) k)
  have hC := Lib.hid (fun z : Later W1 => pBreaks (Later.now z.w) _ _ _ _ p f (HP.out.below z.h) (HF.out.below z.h))
  go_wp2_with (go_at_call 37; refine (hC.out x1).mono ?_; rintro e w' ⟨v, rfl, y, rfl, hI⟩; obtain ⟨al, cl, rfl, ll, hl⟩ := hI.opened)
  have hb2 : Below W1.heap.size W1 y.w := (x1.up y).h
  have hdown : ∀ z : Later y.w, ∃ u : Later W, z.w = u.w := fun z => z.down (hb1.trans (hb2.mono hb1.size))
  replace hdown := Lib.hid hdown
  replace p2 := Later.cells hb2 p2
  replace s1 := Later.sizes hb2 s1
  replace hr := Lib.hid fun i (hi : i < p.rules.length) => by
    obtain ⟨b, o, ha, hb, u2, u3, u6, c0, _⟩ := hr.out i hi
    exact (⟨b, o, ha, Later.sizes hb2 hb, Later.cells hb2 c0⟩ : ∃ b o, ar = some ⟨b, o, none⟩ ∧ (∀ z : Later y.w, b < z.w.heap.size) ∧ (∀ z : Later y.w, z.w.cell? ⟨b, o + i * 7, none⟩ = some (.int .i64 (nth p.rules i).item)))
  clear p0 p1 hC
  go_wp2_with fail
  go_loopw [8, 19] (fun v i wr => ∃ k : Nat, k ≤ (brkL p f).length ∧ i = .int .i64 k ∧ (∃ z : Later y.w, wr = z.w ∧ z.w.ownsRow y.w.heap.size 3 1 v k ((itemsOf p ((brkL p f).take k)).map (Value.int .i64)))) (fun _ i _ => (brkL p f).length - (intOf i).toNat)
  case atStart => exact ⟨0, Nat.zero_le _, rfl, ⟨Later.now _, rfl, World.ownsRow_nil _ _ _ _⟩⟩
  case round =>
    obtain ⟨k, hk, rfl, ⟨z, rfl, hown⟩⟩ := hrel
    by_cases hlt : k < (brkL p f).length
    · obtain ⟨b, o, rfl, hb, c0⟩ := hl.out k hlt
      obtain ⟨g0, g1⟩ := hat.out k hlt
      obtain ⟨br, or, rfl, hbr, d0⟩ := hr.out (nth (brkL p f) k).toNat (by omega)
      have HS := Lib.hid (hstep.out k hlt)
      go_wp2_with (at_builtin; refine wpList_app1 z 22 3 _ 8 Try.info3 rfl Try.underlying22 rfl _ _ rfl _ _ _ (by rfl) hown _ (by rfl) (by rfl) (by omega) (by omega) ?_; intro v' x hown' hgr)
      go_roundw
      case rel => exact ⟨k + 1, by omega, by go_num, ⟨x, rfl, by rw [HS.out]; simpa using hown'⟩⟩
      case measure => simp [intOf]; omega
    · obtain rfl : k = (brkL p f).length := by omega
      rw [List.take_length] at hown
      have hlen : (itemsOf p (brkL p f)).length = (brkL p f).length := by simp [itemsOf]
      rw [← hlen] at hown
      replace hlen := Lib.hid hlen
      have hC := Lib.hid (pcompact z _ _ hown (by rw [hlen.out]; omega))
      go_wp2_with (go_at_call 99; refine hC.out.mono ?_; rintro e w' ⟨v, rfl, y2, rfl, hI2⟩)
      go_ret2
      obtain ⟨u, hu⟩ := hdown.out y2
      rw [hu] at hI2
      exact ⟨_, rfl, u, hu, by rw [hvio.out]; exact hI2⟩
end Go.Proofs.Ytmpkbolabdmkkaa
