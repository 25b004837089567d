/- CONTRACTS of places' options and lists of options. -/
import Derived.Test.YtmpkbolabdmkkaaPlA
namespace Go.Proofs.Ytmpkbolabdmkkaa
open Go.RowKit

theorem orI_cmp (a b : Int) (l : List Int) : orI (cmpI a b :: l) = if a < b then -1 else if b < a then 1 else orI l := by
  show (if _ then _ else _) = _
  unfold cmpI
  by_cases h1 : a < b
  · simp [h1]
  · by_cases h2 : b < a <;> simp [h1, h2]
theorem back_lt (a b : Bool) : (backI a < backI b ↔ a = false ∧ b = true) := by cases a <;> cases b <;> simp [backI]
theorem rankI_lt (a b : Opt) : (rankI a < rankI b ↔ a.piece ≠ 0 ∧ b.piece = 0) := by
  unfold rankI; by_cases h1 : a.piece = 0 <;> by_cases h2 : b.piece = 0 <;> simp [h1, h2]
theorem cmpO_lt (a b : Opt) : decide (0 ≤ cmpO a b) = !optLt a b := by
  rw [Bool.eq_iff_iff]
  unfold cmpO
  simp only [orI_cmp, back_lt, rankI_lt]
  unfold optLt
  by_cases h1 : a.piece < b.piece
  · have : a.piece ≠ b.piece := by omega
    have : ¬ b.piece < a.piece := by omega
    by_cases h3 : a.piece = 0 <;> by_cases h4 : b.piece = 0 <;> simp [*] <;> omega
  · by_cases h2 : b.piece < a.piece
    · have : a.piece ≠ b.piece := by omega
      by_cases h3 : a.piece = 0 <;> by_cases h4 : b.piece = 0 <;> simp [*] <;> omega
    · have h3 : a.piece = b.piece := by omega
      by_cases h4 : a.shift < b.shift
      · have : a.shift ≠ b.shift := by omega
        simp [*]
      · by_cases h5 : b.shift < a.shift
        · have : a.shift ≠ b.shift := by omega
          simp [*]
        · have h6 : a.shift = b.shift := by omega
          cases ha : a.back <;> cases hb : b.back <;> simp [h3, h6]
          all_goals (by_cases h7 : a.colour < b.colour <;> by_cases h8 : b.colour < a.colour <;> simp [h7, h8, orI] <;> omega)

set_option maxHeartbeats 400000 in
theorem poption {W : World} (x : Later W) (o : Opt) :
    Calls Try.prog 138 #[.agg #[.int .i64 o.piece, .int .i64 o.shift, .bool o.back, .int .i64 o.colour]] x.w (Ends W (.bool (optOK o))) := by
  go_enter Try.func138, Try.ntmps138
  go_wp2_with (go_at_call 94; refine (pwithin _ _ _ _).mono ?_; rintro e w' ⟨rfl, rfl⟩)
  all_goals (go_ret; exact ⟨ret_bool (by simp_all [optOK]), x.step (below_alloc1 _ _)⟩)

set_option maxHeartbeats 1000000 in
theorem poptions {W : World} (x : Later W) (v : Value) (l : List Opt) (h : IsOpts W v l) :
    Calls Try.prog 95 #[v] x.w (Ends W (.bool (optsOK l))) := by
  obtain ⟨a, c, rfl, hl, h⟩ := h.opened
  by_cases hlen : 1 ≤ l.length ∧ l.length ≤ 256
  case neg =>
    have hno := Lib.hid (optsOK_no hlen)
    have hw : wi l.length 1 256 = false := by rw [wi_no]; omega
    clear hlen
    go_enter Try.func95, Try.ntmps95
    go_wp2_with (go_at_call 94; refine (pwithin _ _ _ _).mono ?_; rintro e w' ⟨rfl, rfl⟩)
    go_ret; exact ⟨ret_bool hno.out.symm, x, rfl⟩
  have hw : wi l.length 1 256 = true := by rw [wi_iff]; omega
  have hyes := Lib.hid (@optsOK_yes l hlen)
  obtain ⟨hlen1, hlen2⟩ := hlen
  go_enter Try.func95, Try.ntmps95
  go_wp2_with (go_at_call 94; refine (pwithin _ _ _ _).mono ?_; rintro e w' ⟨rfl, rfl⟩)
  go_loopw [12] (fun i wr => ∃ k : Nat, k ≤ l.length ∧ i = .int .i64 k ∧ (∃ x : Later W, wr = x.w) ∧ (∀ i, i < k → optOK (nth l i) = true ∧ (0 < i → optLt (nth l (i - 1)) (nth l i) = true))) (fun i _ => l.length - (intOf i).toNat)
  case atStart => exact ⟨0, Nat.zero_le _, rfl, ⟨x, rfl⟩, by omega⟩
  case round =>
    obtain ⟨k, hk, rfl, ⟨x, rfl⟩, hno⟩ := hrel
    replace hno := Lib.hid hno
    by_cases hlt : k < l.length
    · have hbad := Lib.hid (@optsOK_bad l k hlt)
      obtain ⟨b, o, rfl, hb, c0, c1, c2, c3⟩ := h.out k hlt
      have hcmp := Lib.hid (cmpO_lt (nth l (k - 1)) (nth l k))
      go_upto_region 6 with (fail)
      obtain ⟨W1, x1, e1, hb1, s1, q0, q1, q2, q3⟩ := enter4 x (.int .i64 (nth l k).piece) (.int .i64 (nth l k).shift) (.bool (nth l k).back) (.int .i64 (nth l k).colour) 57
      rw [e1]; clear e1
      replace hb := Later.sizes hb1 hb
      clear c0 c1 c2 c3
      by_cases h2 : 0 < k
      · obtain ⟨_, _, he, _, d0, d1, d2, d3⟩ := h.out (k - 1) (by omega)
        cases he
        replace d0 := Later.cells hb1 d0
        replace d1 := Later.cells hb1 d1
        replace d2 := Later.cells hb1 d2
        replace d3 := Later.cells hb1 d3
        cases h3 : decide (0 ≤ cmpO (nth l (k - 1)) (nth l k))
        · have h3' : optLt (nth l (k - 1)) (nth l k) = true := by have := hcmp.out; rw [h3] at this; simpa using this.symm
          replace h3' := Lib.hid h3'
          cases h1 : optOK (nth l k)
          · go_wp2_with (first | (go_at_call 137; refine (pcompare x1 _ _).mono ?_; rintro e w' ⟨rfl, x1, rfl⟩) | (go_at_call 138; refine (poption x1 _).mono ?_; rintro e w' ⟨rfl, x1, rfl⟩))
            go_ret; exact ⟨ret_bool (hbad.out (.inl h1)).symm, x1.down hb1⟩
          · go_wp2_with (first | (go_at_call 137; refine (pcompare x1 _ _).mono ?_; rintro e w' ⟨rfl, x1, rfl⟩) | (go_at_call 138; refine (poption x1 _).mono ?_; rintro e w' ⟨rfl, x1, rfl⟩))
            go_roundw
            case rel => exact ⟨k + 1, by omega, by go_num, x1.down hb1, all_step hno.out ⟨h1, fun _ => h3'.out⟩⟩
            case measure => simp [intOf]; omega
        · have h3' : optLt (nth l (k - 1)) (nth l k) = false := by have := hcmp.out; rw [h3] at this; simpa using this.symm
          replace h3' := Lib.hid h3'
          go_wp2_with (first | (go_at_call 137; refine (pcompare x1 _ _).mono ?_; rintro e w' ⟨rfl, x1, rfl⟩))
          go_ret; exact ⟨ret_bool (hbad.out (.inr ⟨h2, h3'.out⟩)).symm, x1.down hb1⟩
      · cases h1 : optOK (nth l k)
        · go_wp2_with (first | (go_at_call 138; refine (poption x1 _).mono ?_; rintro e w' ⟨rfl, x1, rfl⟩))
          go_ret; exact ⟨ret_bool (hbad.out (.inl h1)).symm, x1.down hb1⟩
        · go_wp2_with (first | (go_at_call 138; refine (poption x1 _).mono ?_; rintro e w' ⟨rfl, x1, rfl⟩))
          go_roundw
          case rel => exact ⟨k + 1, by omega, by go_num, x1.down hb1, all_step hno.out ⟨h1, fun h => absurd h h2⟩⟩
          case measure => simp [intOf]; omega
    · obtain rfl : k = l.length := by omega
      go_wp2
      go_ret; exact ⟨ret_bool (hyes.out hno.out).symm, x, rfl⟩
end Go.Proofs.Ytmpkbolabdmkkaa
