/- CONTRACT of PlacesMore. -/
import Derived.Test.YtmpkbolabdmkkaaZLawD
import Derived.Test.YtmpkbolabdmkkaaZPmB
import Derived.Test.YtmpkbolabdmkkaaZPoC
import Derived.Test.YtmpkbolabdmkkaaZOnm
namespace Go.Proofs.Ytmpkbolabdmkkaa
open Go.RowKit

set_option maxRecDepth 100000 in
set_option maxHeartbeats 4000000 in
theorem lawMore {W : World} (x : Later W) (v0 v1 v2 vi vf : Value) (p : Prob) (it f : List Int) (hp : IsProb W v0 v1 v2 p) (hi : IsInts W vi it) (hf : IsInts W vf f) : Calls Try.prog 7 #[.agg #[v0, v1, v2], vi, vf] x.w (Ends W (.bool true)) := by
  go_enter Try.func7, Try.ntmps7
  go_upto_region 1 with (fail)
  obtain ⟨W1, x1, e1, hb1, s1, p0, p1, p2⟩ := enter3 x v0 v1 v2 26
  rw [e1]; clear e1
  have HP := Lib.hid (hp.below hb1)
  have HI := Lib.hid (hi.below hb1)
  have HF := Lib.hid (hf.below hb1)
  obtain ⟨ap, cp, rfl, lp, _⟩ := hp.panes.opened
  obtain ⟨ao, co, rfl, lo, _⟩ := hp.opts.opened
  obtain ⟨ar, cr, rfl, lr, _⟩ := hp.rules.opened
  obtain ⟨ai, ci, rfl, li, _⟩ := hi.opened
  obtain ⟨af, cf, rfl, lf, _⟩ := hf.opened
  clear hp hi hf
  go_upto_region 2 with (go_at_call 14; refine (lawake x1).mono ?_; rintro e w' ⟨rfl, x1, rfl⟩)
  go_wp2_with (fail)
  refine (llight x1 _ _ _ p HP.out).mono ?_
  rintro e w' ⟨bs, rfl, x1, rfl⟩
  cases bs
  · go_wp2
    go_ret; exact ⟨rfl, x1.down hb1⟩
  by_cases g100 : 100 < it.length
  · go_wp2
    go_ret; exact ⟨rfl, x1.down hb1⟩
  by_cases g200 : 200 < f.length
  · go_wp2
    go_ret; exact ⟨rfl, x1.down hb1⟩
  go_upto_region 5 with (go_at_call 18; refine (pOnly x1 _ _ _ _ p it HP.out HI.out).mono ?_; rintro e w' ⟨q0, q1, q2, rfl, ⟨⟨a3, l3, c3, rfl⟩, ⟨a4, l4, c4, rfl⟩, ⟨a5, l5, c5, rfl⟩⟩, y1, rfl, hQ⟩)
  have hB := below_then hb1 y1
  obtain ⟨b8, hB8⟩ : ∃ b8, y1.w.heap.size = b8 := ⟨_, rfl⟩
  obtain ⟨W2, hW2⟩ : ∃ W2, y1.w.alloc (.cells #[.slice a3 l3 c3, .slice a4 l4 c4, .slice a5 l5 c5] 26) = W2 := ⟨_, rfl⟩
  have hb2 : Below y1.w.heap.size y1.w W2 := hW2 ▸ below_alloc1 _ _
  have n8 : b8 < W2.heap.size := by rw [← hW2, ← hB8]; simp
  have d0 : ∀ y : Later W2, y.w.cell? ⟨b8, 0, none⟩ = some (.slice a3 l3 c3) := Later.cell n8 (by rw [← hW2, ← hB8]; exact World.cell?_alloc_at _ _ _ 0 rfl)
  have d1 : ∀ y : Later W2, y.w.cell? ⟨b8, 1, none⟩ = some (.slice a4 l4 c4) := Later.cell n8 (by rw [← hW2, ← hB8]; exact World.cell?_alloc_at _ _ _ 1 rfl)
  have d2 : ∀ y : Later W2, y.w.cell? ⟨b8, 2, none⟩ = some (.slice a5 l5 c5) := Later.cell n8 (by rw [← hW2, ← hB8]; exact World.cell?_alloc_at _ _ _ 2 rfl)
  have s8 : ∀ y : Later W2, b8 < y.w.heap.size := Later.size n8
  have hb12 : Below W1.heap.size W1 W2 := y1.h.trans (hb2.mono y1.h.size)
  rw [hW2, hB8]
  replace hB : Below W.heap.size W W2 := hB.trans (hb2.mono hB.size)
  replace hQ := fun h => (hQ h).below hb2
  clear hW2 hB8 hb2 y1
  replace HP := Lib.hid (HP.out.below hb12)
  replace HF := Lib.hid (HF.out.below hb12)
  replace p0 := Later.cells hb12 p0
  replace p1 := Later.cells hb12 p1
  replace p2 := Later.cells hb12 p2
  replace s1 := Later.sizes hb12 s1
  have hbase : Hid (∀ y : Later W2, Ends W (.bool true) (.returned (.bool true)) y.w) := Lib.hid (fun y => ⟨rfl, ⟨y.w, below_then hB y⟩, rfl⟩)
  show Code.wp _ _ _ _ (Later.now W2).w
  generalize Later.now W2 = xb
  by_cases hE : onlyE p it = 0
  case neg =>
    have hE' : (onlyE p it != 0) = true := by simp [hE]
    clear hE
    go_wp2
    go_ret; exact hbase.out _
  have HQ := Lib.hid (hQ hE)
  clear hQ
  have hv : validP p = true := by
    cases hv : validP p
    · rw [onlyE_70 hv] at hE; cases hE
    · rfl
  rw [hE]
  clear hE
  have ew := only_wrong hv it f
  have el := only_large hv it
  have ec : (agr p).length ≤ (agr (onlyP p it)).length := only_len p it
  have ea : agrB p f = true → agrB (onlyP p it) f = true := fun h => by
    unfold agrB at h ⊢
    rw [Bool.and_eq_true] at h ⊢
    exact ⟨by rw [ew]; exact h.1, only_more h.2⟩
  obtain ⟨Q, hQd⟩ : ∃ Q, onlyP p it = Q := ⟨_, rfl⟩
  have hpos := Lib.hid (fun i o hi ho h => @only_poss p hv it i o hi ho h)
  have hvQ := only_valid hv it
  have hQo : (onlyP p it).opts = p.opts := rfl
  rw [hQd] at HQ ew el ec ea hpos hvQ hQo
  clear hQd
  have hcv : countV p ≤ countV Q := by unfold countV; rw [el]; split <;> omega
  have hcv2 : decide (countV Q < countV p) = false := by simp; omega
  replace ew := Lib.hid ew
  replace el := Lib.hid el
  replace ea := Lib.hid ea
  replace hcv := Lib.hid hcv
  clear ec
  go_upto_region 11 with (first | (have hx := y1.h; clear hx; go_at_call 41; refine (pAgrees y1 _ _ _ _ Q f HQ.out HF.out).mono ?_; rintro e w' ⟨rfl, y2, rfl⟩) | (go_at_call 41; refine (pAgrees xb _ _ _ _ p f HP.out HF.out).mono ?_; rintro e w' ⟨rfl, y1, rfl⟩) | (have hx := y3.h; clear hx; go_at_call 28; refine (pCount y3 _ _ _ Q HQ.out).mono ?_; rintro e w' ⟨rfl, y4, rfl⟩) | (go_at_call 28; refine (pCount y2 _ _ _ p HP.out).mono ?_; rintro e w' ⟨rfl, y3, rfl⟩))
  rw [ew.out, el.out]
  obtain ⟨bA, hbA⟩ : ∃ b, agrB p f = b := ⟨_, rfl⟩
  obtain ⟨bQ, hbQ⟩ : ∃ b, agrB Q f = b := ⟨_, rfl⟩
  have hAQ : bA = true → bQ = true := fun h => by rw [← hbQ]; exact ea.out (by rw [hbA, h])
  rw [hbA, hbQ]
  clear hbA hbQ ea xb y1 y2 y3
  have hfin : bA = false ∨ (bA = true ∧ bQ = true) := by
    cases bA
    · exact .inl rfl
    · exact .inr ⟨rfl, hAQ rfl⟩
  clear hAQ
  rcases hfin with rfl | ⟨rfl, rfl⟩ <;> go_upto_region 14 with (go_at_call 46; refine (pPossible y4 _ _ _ p HP.out).mono ?_; rintro e w' ⟨u, rfl, y5, rfl, hI⟩; have I1 := Lib.hid hI; obtain ⟨a1, c1, rfl, hx1, hx2⟩ := hI; clear hx1 hx2)
  all_goals
    have hbase2 : Hid (∀ y : Later y5.w, Ends W (.bool true) (.returned (.bool true)) y.w) := Lib.hid (fun y => hbase.out (y5.up y))
    replace d0 := Later.cells y5.h d0
    replace d1 := Later.cells y5.h d1
    replace d2 := Later.cells y5.h d2
    replace s8 := Later.sizes y5.h s8
    replace HQ := Lib.hid (HQ.out.below y5.h)
    show Code.wp _ _ _ _ (Later.now y5.w).w
    generalize Later.now y5.w = xc
    go_upto_region 15 with (go_at_call 46; refine (pPossible xc _ _ _ Q HQ.out).mono ?_; rintro e w' ⟨u, rfl, y6, rfl, hI⟩; have I2 := Lib.hid hI; obtain ⟨a2, c2, rfl, hx1, hx2⟩ := hI; clear hx1 hx2)
    replace I1 := Lib.hid (I1.out.below y6.h)
    have hbase3 : Hid (∀ y : Later y6.w, Ends W (.bool true) (.returned (.bool true)) y.w) := Lib.hid (fun y => hbase2.out (y6.up y))
    rw [el.out]
    show Code.wp _ _ _ _ (Later.now y6.w).w
    generalize Later.now y6.w = xd
    by_cases h0 : largeE p = 0
    case neg =>
      have hb0 : (largeE p != 0) = true := by simp [h0]
      go_wp2
      go_ret; exact hbase3.out _
    have hb0 : (largeE p != 0) = false := by simp [h0]
    have h0Q : largeE Q = 0 := by rw [el.out]; exact h0
    have hps : possL p = possT p := by simp [possL, h0]
    have hpsQ : possL Q = possT Q := by simp [possL, h0Q]
    rw [hps] at I1 ⊢
    rw [hpsQ] at I2 ⊢
    have hpl := possT_length p
    have hplQ := possT_length Q
    rw [hQo] at hplQ
    have hprow := Lib.hid (fun j => @possT_rowlen p j)
    have hprowQ : Hid (∀ i, i < p.opts.length → (nth (possT Q) i).length = (nth p.opts i).length) := Lib.hid (fun i hi => by have := @possT_rowlen Q i (by rw [hQo]; exact hi); rw [hQo] at this; exact this)
    rw [hpl, hplQ]
    obtain ⟨_, _, hqq, _, htab⟩ := I1.out.opened
    rw [hpl] at hqq htab
    cases hqq
    obtain ⟨_, _, hqq, _, htab2⟩ := I2.out.opened
    rw [hplQ] at hqq htab2
    cases hqq
    replace hpl := Lib.hid hpl
    replace hplQ := Lib.hid hplQ
    replace hps := Lib.hid hps
    replace hpsQ := Lib.hid hpsQ
    replace h0 := Lib.hid h0
    replace h0Q := Lib.hid h0Q
    replace hQo := Lib.hid hQo
    go_wp2
    go_loopw [22] (fun i wr => ∃ k : Nat, k ≤ p.opts.length ∧ i = .int .i64 k ∧ ∃ y : Later y6.w, wr = y.w) (fun i _ => p.opts.length - (intOf i).toNat)
    case atStart => exact ⟨0, Nat.zero_le _, rfl, xd, rfl⟩
    case round =>
      clear xd
      obtain ⟨k, hk, rfl, ⟨xb, rfl⟩⟩ := hrel
      by_cases hlt : k < p.opts.length
      · have ho2 := (valid_opts hv hlt).2
        obtain ⟨b1, o1, rfl, hb1', u1, t1, hT1⟩ := htab.out k hlt
        obtain ⟨b2, o2, rfl, hb2', u2, t2, hT2⟩ := htab2.out k hlt
        obtain ⟨a1, c1, rfl, _, hr1⟩ := hT1.opened
        obtain ⟨a2, c2, rfl, _, hr2⟩ := hT2.opened
        rw [hprow.out k hlt] at t1 hr1
        rw [hprowQ.out k hlt] at t2 hr2
        clear hT1 hT2
        go_wp2
        go_loopw [23] (fun i wr => ∃ m : Nat, m ≤ (nth p.opts k).length ∧ i = .int .i64 m ∧ ∃ y : Later y6.w, wr = y.w) (fun i _ => (nth p.opts k).length - (intOf i).toNat)
        case atStart => exact ⟨0, Nat.zero_le _, rfl, xb, rfl⟩
        case round =>
          clear xb
          obtain ⟨m, hm, rfl, ⟨xb, rfl⟩⟩ := hrel
          by_cases hlt2 : m < (nth p.opts k).length
          · obtain ⟨b3, o3, rfl, hb3', e1⟩ := hr1.out m hlt2
            obtain ⟨b4, o4, rfl, hb4', e2⟩ := hr2.out m hlt2
            have hkk := hpos.out k m hlt hlt2
            cases hA : nth (nth (possT p) k) m <;> rw [hA] at e1
            · clear hkk
              go_wp2
              go_roundw
              case rel => exact ⟨m + 1, by omega, by go_num, xb, rfl⟩
              case measure => simp [intOf]; omega
            · rw [hkk hA] at e2
              clear hkk
              go_wp2
              go_roundw
              case rel => exact ⟨m + 1, by omega, by go_num, xb, rfl⟩
              case measure => simp [intOf]; omega
          · obtain rfl : m = (nth p.opts k).length := by omega
            go_wp2
            go_roundw
            case rel => exact ⟨k + 1, by omega, by go_num, xb, rfl⟩
            case measure => simp [intOf]; omega
      · obtain rfl : k = p.opts.length := by omega
        go_wp2
        go_ret; exact hbase3.out _
end Go.Proofs.Ytmpkbolabdmkkaa
