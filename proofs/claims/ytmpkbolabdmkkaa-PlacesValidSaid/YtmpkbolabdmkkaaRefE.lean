/- CONTRACT of the reference's Valid. -/
import Derived.Test.YtmpkbolabdmkkaaRefD
namespace Go.Proofs.Ytmpkbolabdmkkaa
open Go.RowKit

set_option maxRecDepth 100000 in
set_option maxHeartbeats 4000000 in
theorem rValid {W : World} (x : Later W) (v0 v1 v2 : Value) (p : Prob) (hp : IsProb W v0 v1 v2 p) :
    Calls Try.prog 27 #[.agg #[v0, v1, v2]] x.w (Ends W (.bool (validP p))) := by
  go_enter Try.func27, Try.ntmps27
  go_upto_region 1 with (fail)
  obtain ⟨W1, x1, e1, hb1, s1, p0, p1, p2⟩ := enter3 x v0 v1 v2 26
  rw [e1]; clear e1
  replace hp := hp.below hb1
  have HP := Lib.hid hp
  obtain ⟨ap, cp, rfl, lp, hpanes⟩ := hp.panes.opened
  obtain ⟨ao, co, rfl, lo, hopts⟩ := hp.opts.opened
  obtain ⟨ar, cr, rfl, lr, hr⟩ := hp.rules.opened
  clear hp
  by_cases hl : p.opts.length = p.panes.length ∧ p.rules.length ≤ 256
  case neg =>
    have hno := Lib.hid (valid_no1 hl)
    by_cases g1 : p.opts.length = p.panes.length
    · have g1' : (p.opts.length : Int) = p.panes.length := by omega
      have g2 : 256 < p.rules.length := by omega
      replace g1 := Lib.hid g1
      clear hl
      by_cases g3 : 64 < p.panes.length
      all_goals
        go_wp2
        go_ret; exact ⟨ret_bool hno.out.symm, x1.down hb1⟩
    · clear hl
      go_wp2
      all_goals (go_ret; exact ⟨ret_bool hno.out.symm, x1.down hb1⟩)
  obtain ⟨hl1, hl2⟩ := hl
  have hl1' : (p.opts.length : Int) = p.panes.length := by omega
  replace hl1 := Lib.hid hl1
  by_cases h64 : p.panes.length ≤ 64
  case neg =>
    have hno : Hid (validP p = false) := Lib.hid (by
      rw [← Bool.not_eq_true]; exact fun h => h64 (valid_panes (validP_iff.1 h).2.1))
    go_wp2
    go_ret; exact ⟨ret_bool hno.out.symm, x1.down hb1⟩
  go_wp2
  go_loopw [3] (fun i wr => ∃ k : Nat, k ≤ p.panes.length ∧ i = .int .i64 k ∧ (∃ y : Later W1, wr = y.w) ∧ (∀ i, i < k → paneOK p i = true)) (fun i _ => p.panes.length - (intOf i).toNat)
  case atStart => exact ⟨0, Nat.zero_le _, rfl, ⟨x1, rfl⟩, by omega⟩
  case round =>
    obtain ⟨k, hk, rfl, ⟨x, rfl⟩, hpan⟩ := hrel
    replace hpan := Lib.hid hpan
    by_cases hlt : k < p.panes.length
    · have hbad := Lib.hid (@valid_no2 p k hlt)
      have hko : k < p.opts.length := by have := hl1.out; omega
      obtain ⟨b, o, rfl, hb, c0⟩ := hpanes.out k hlt
      obtain ⟨bo, oo, rfl, hbo, uo, co0, hO⟩ := hopts.out k hko
      cases hA : wi (nth p.panes k) 1 64
      · go_wp2
        refine wp_region_later x (by kernel_rfl) (by kernel_rfl) ?_
        repeat (go_big_quiet_step ((go_at_call 85; exact calls_same (rwithin _ _ _ _))))
        refine wpQuiet_nil ?_
        rintro _ ⟨x, rfl⟩
        go_wp2
        go_ret; exact ⟨ret_bool (hbad.out (.inl hA)).symm, x.down hb1⟩
      by_cases h2 : 0 < k
      · obtain ⟨_, _, he, _, d0⟩ := hpanes.out (k - 1) (by omega)
        cases he
        cases h3 : decide (nth p.panes k ≤ nth p.panes (k - 1))
        · go_wp2
          refine wp_region_later x (by kernel_rfl) (by kernel_rfl) ?_
          repeat (go_big_quiet_step ((first | (go_at_call 85; exact calls_same (rwithin _ _ _ _)) | (go_at_call 86; exact roptions _ _ _ hO))))
          refine wpQuiet_nil ?_
          rintro _ ⟨x, rfl⟩
          cases h4 : optsOK (nth p.opts k) <;> go_wp2
          · go_ret; exact ⟨ret_bool (hbad.out (.inr (.inr h4))).symm, x.down hb1⟩
          · go_roundw
            case rel => exact ⟨k + 1, by omega, by go_num, ⟨x, rfl⟩, all_step hpan.out (paneOK_iff.2 ⟨hA, fun _ => by simpa using h3, h4⟩)⟩
            case measure => simp [intOf]; omega
        · go_wp2
          refine wp_region_later x (by kernel_rfl) (by kernel_rfl) ?_
          repeat (go_big_quiet_step ((first | (go_at_call 85; exact calls_same (rwithin _ _ _ _)) | (go_at_call 86; exact roptions _ _ _ hO))))
          refine wpQuiet_nil ?_
          rintro _ ⟨x, rfl⟩
          go_wp2
          go_ret; exact ⟨ret_bool (hbad.out (.inr (.inl ⟨h2, by simpa using h3⟩))).symm, x.down hb1⟩
      · go_wp2
        refine wp_region_later x (by kernel_rfl) (by kernel_rfl) ?_
        repeat (go_big_quiet_step ((first | (go_at_call 85; exact calls_same (rwithin _ _ _ _)) | (go_at_call 86; exact roptions _ _ _ hO))))
        refine wpQuiet_nil ?_
        rintro _ ⟨x, rfl⟩
        cases h4 : optsOK (nth p.opts k) <;> go_wp2
        · go_ret; exact ⟨ret_bool (hbad.out (.inr (.inr h4))).symm, x.down hb1⟩
        · go_roundw
          case rel => exact ⟨k + 1, by omega, by go_num, ⟨x, rfl⟩, all_step hpan.out (paneOK_iff.2 ⟨hA, fun h => absurd h h2, h4⟩)⟩
          case measure => simp [intOf]; omega
    · obtain rfl : k = p.panes.length := by omega
      go_wp2
      go_loopw [4, 5] (fun i _ wr => ∃ k : Nat, k ≤ p.rules.length ∧ i = .int .i64 k ∧ (∃ y : Later W1, wr = y.w) ∧ (∀ i, i < k → ruleAtOK p i = true)) (fun i _ _ => p.rules.length - (intOf i).toNat)
      case atStart => exact ⟨0, Nat.zero_le _, rfl, ⟨x, rfl⟩, by omega⟩
      case round =>
        obtain ⟨k, hk, rfl, ⟨x, rfl⟩, hrul⟩ := hrel
        replace hrul := Lib.hid hrul
        by_cases hlt : k < p.rules.length
        · have hbad := Lib.hid (@valid_no3 p k hlt)
          obtain ⟨b, o, rfl, hb, u2, u3, u6, c0, c1, c2, c3, c4, c5, c6, hR⟩ := hr.out k hlt
          have HR := Lib.hid hR
          obtain ⟨aq, cq, rfl, _, _⟩ := hR.panes.opened
          obtain ⟨ah, ch, rfl, _, _⟩ := hR.hits.opened
          obtain ⟨ak, ck, rfl, _, _⟩ := hR.ok.opened
          clear hR
          go_upto_region 12 with (fail)
          obtain ⟨W2, x2, e2, hb2, s2, q0, q1, q2, q3, q4, q5, q6⟩ := enter7 x (.int .i64 (nth p.rules k).item) (.int .i64 (nth p.rules k).kind) (.slice aq (nth p.rules k).panes.length cq) (.slice ah (nth p.rules k).hits.length ch) (.int .i64 (nth p.rules k).lo) (.int .i64 (nth p.rules k).hi) (.slice ak (nth p.rules k).ok.length ck) 87
          rw [e2]; clear e2
          replace p0 := Later.cells hb2 p0
          replace p1 := Later.cells hb2 p1
          replace p2 := Later.cells hb2 p2
          replace c0 := Later.cells hb2 c0
          replace hb := Later.sizes hb2 hb
          replace s1 := Later.sizes hb2 s1
          clear c1 c2 c3 c4 c5 c6
          cases hA : wi (nth p.rules k).item 1 65535
          · refine wp_region_later x2 (by kernel_rfl) (by kernel_rfl) ?_
            repeat (go_big_quiet_step ((go_at_call 85; exact calls_same (rwithin _ _ _ _))))
            refine wpQuiet_nil ?_
            rintro _ ⟨x2, rfl⟩
            go_wp2
            go_ret; exact ⟨ret_bool (hbad.out (.inl hA)).symm, x2.down (hb1.trans (hb2.mono hb1.size))⟩
          have hcase : (0 < k ∧ decide ((nth p.rules k).item < (nth p.rules (k - 1)).item) = true) ∨ (0 < k → (nth p.rules (k - 1)).item ≤ (nth p.rules k).item) := by
            by_cases h2 : 0 < k
            · cases h3 : decide ((nth p.rules k).item < (nth p.rules (k - 1)).item)
              · exact .inr fun _ => by simpa using h3
              · exact .inl ⟨h2, rfl⟩
            · exact .inr fun h => absurd h h2
          have hdown : ∀ y : Later W2, ∃ z : Later W, y.w = z.w := fun y => y.down (hb1.trans (hb2.mono hb1.size))
          replace hdown := Lib.hid hdown
          have hup : ∀ y : Later W2, ∃ z : Later W1, y.w = z.w := fun y => y.down hb2
          replace hup := Lib.hid hup
          have hp2 := Lib.hid (HP.out.below hb2)
          have hr2 := Lib.hid (HR.out.below hb2)
          rcases hcase with ⟨h2, h3⟩ | h3
          · obtain ⟨_, _, he, _, _, _, _, d0, _, _, _, _, _, _, _⟩ := hr.out (k - 1) (by omega)
            cases he
            replace d0 := Later.cells hb2 d0
            refine wp_region_later x2 (by kernel_rfl) (by kernel_rfl) ?_
            repeat (go_big_quiet_step ((go_at_call 85; exact calls_same (rwithin _ _ _ _))))
            refine wpQuiet_nil ?_
            rintro _ ⟨x2, rfl⟩
            go_wp2
            go_ret; exact ⟨ret_bool (hbad.out (.inr (.inl ⟨h2, by simpa using h3⟩))).symm, hdown.out x2⟩
          · have hgood : ∀ (x2 : Later W2), ruleOK p (nth p.rules k) = true → ∃ k_1 : Nat, k_1 ≤ p.rules.length ∧ Value.int .i64 ((k : Int) + 1) = .int .i64 k_1 ∧ (∃ y : Later W1, x2.w = y.w) ∧ ∀ i, i < k_1 → ruleAtOK p i = true :=
              fun x2 h => ⟨k + 1, by omega, by go_num, hup.out x2, all_step hrul.out (ruleAtOK_iff.2 ⟨hA, h3, h⟩)⟩
            replace hgood := Lib.hid hgood
            replace hbad := Lib.hid (fun h => hbad.out (.inr (.inr h)))
            have hreg : (0 < k ∧ decide ((nth p.rules k).item < (nth p.rules (k - 1)).item) = false) ∨ ¬ 0 < k := by
              by_cases h2 : 0 < k
              · exact .inl ⟨h2, by have := h3 h2; simp; omega⟩
              · exact .inr h2
            clear h3
            rcases hreg with ⟨h2, h3⟩ | h2
            · obtain ⟨_, _, he, _, _, _, _, d0, _, _, _, _, _, _, _⟩ := hr.out (k - 1) (by omega)
              cases he
              replace d0 := Later.cells hb2 d0
              refine wp_region_later x2 (by kernel_rfl) (by kernel_rfl) ?_
              repeat (go_big_quiet_step ((go_at_call 85; exact calls_same (rwithin _ _ _ _))))
              refine wpQuiet_nil ?_
              rintro _ ⟨x2, rfl⟩
              clear d0 h3 c0 h2
              go_upto_region 14 with (fail)
              by_cases g1 : (nth p.rules k).kind = 1
              · have f1 : ((nth p.rules k).kind == 1) = true := by simp [g1]
                have f2 : ((nth p.rules k).kind != 1) = false := by simp [g1]
                have f3 : ((nth p.rules k).kind == 2) = false := by simp [g1]
                have f4 : ((nth p.rules k).kind != 2) = true := by simp [g1]
                replace g1 := Lib.hid g1
                cases hC : cntOK p (nth p.rules k)
                · go_wp2_with (go_at_call 87; refine (rcount x2 _ _ _ _ _ _ p (nth p.rules k) hp2.out hr2.out hl1.out).mono ?_; rintro e w' ⟨rfl, x2, rfl⟩)
                  go_ret; exact ⟨ret_bool (hbad.out (by simp [ruleOK, g1.out, hC])).symm, hdown.out x2⟩
                · go_wp2_with (go_at_call 87; refine (rcount x2 _ _ _ _ _ _ p (nth p.rules k) hp2.out hr2.out hl1.out).mono ?_; rintro e w' ⟨rfl, x2, rfl⟩)
                  go_roundw
                  case rel => exact hgood.out x2 (by simp [ruleOK, g1.out, hC])
                  case measure => simp [intOf]; omega
              · by_cases g2 : (nth p.rules k).kind = 2
                · have f1 : ((nth p.rules k).kind == 1) = false := by simp [g2]
                  have f2 : ((nth p.rules k).kind != 1) = true := by simp [g2]
                  have f3 : ((nth p.rules k).kind == 2) = true := by simp [g2]
                  have f4 : ((nth p.rules k).kind != 2) = false := by simp [g2]
                  clear g1
                  replace g2 := Lib.hid g2
                  cases hC : pairOK p (nth p.rules k)
                  · go_wp2_with (go_at_call 88; refine (rpair x2 _ _ _ _ _ _ p (nth p.rules k) hp2.out hr2.out hl1.out).mono ?_; rintro e w' ⟨rfl, x2, rfl⟩)
                    go_ret; exact ⟨ret_bool (hbad.out (by simp [ruleOK, g2.out, hC])).symm, hdown.out x2⟩
                  · go_wp2_with (go_at_call 88; refine (rpair x2 _ _ _ _ _ _ p (nth p.rules k) hp2.out hr2.out hl1.out).mono ?_; rintro e w' ⟨rfl, x2, rfl⟩)
                    go_roundw
                    case rel => exact hgood.out x2 (by simp [ruleOK, g2.out, hC])
                    case measure => simp [intOf]; omega
                · have f2 : ((nth p.rules k).kind != 1) = true := by simp [g1]
                  have f4 : ((nth p.rules k).kind != 2) = true := by simp [g2]
                  have hq : ruleOK p (nth p.rules k) = false := by simp [ruleOK, g1, g2]
                  replace hq := Lib.hid hq
                  clear g1 g2
                  go_wp2
                  go_ret; exact ⟨ret_bool (hbad.out hq.out).symm, hdown.out x2⟩
            · refine wp_region_later x2 (by kernel_rfl) (by kernel_rfl) ?_
              repeat (go_big_quiet_step ((go_at_call 85; exact calls_same (rwithin _ _ _ _))))
              refine wpQuiet_nil ?_
              rintro _ ⟨x2, rfl⟩
              clear c0 h2
              go_upto_region 14 with (fail)
              by_cases g1 : (nth p.rules k).kind = 1
              · have f1 : ((nth p.rules k).kind == 1) = true := by simp [g1]
                have f2 : ((nth p.rules k).kind != 1) = false := by simp [g1]
                have f3 : ((nth p.rules k).kind == 2) = false := by simp [g1]
                have f4 : ((nth p.rules k).kind != 2) = true := by simp [g1]
                replace g1 := Lib.hid g1
                cases hC : cntOK p (nth p.rules k)
                · go_wp2_with (go_at_call 87; refine (rcount x2 _ _ _ _ _ _ p (nth p.rules k) hp2.out hr2.out hl1.out).mono ?_; rintro e w' ⟨rfl, x2, rfl⟩)
                  go_ret; exact ⟨ret_bool (hbad.out (by simp [ruleOK, g1.out, hC])).symm, hdown.out x2⟩
                · go_wp2_with (go_at_call 87; refine (rcount x2 _ _ _ _ _ _ p (nth p.rules k) hp2.out hr2.out hl1.out).mono ?_; rintro e w' ⟨rfl, x2, rfl⟩)
                  go_roundw
                  case rel => exact hgood.out x2 (by simp [ruleOK, g1.out, hC])
                  case measure => simp [intOf]; omega
              · by_cases g2 : (nth p.rules k).kind = 2
                · have f1 : ((nth p.rules k).kind == 1) = false := by simp [g2]
                  have f2 : ((nth p.rules k).kind != 1) = true := by simp [g2]
                  have f3 : ((nth p.rules k).kind == 2) = true := by simp [g2]
                  have f4 : ((nth p.rules k).kind != 2) = false := by simp [g2]
                  clear g1
                  replace g2 := Lib.hid g2
                  cases hC : pairOK p (nth p.rules k)
                  · go_wp2_with (go_at_call 88; refine (rpair x2 _ _ _ _ _ _ p (nth p.rules k) hp2.out hr2.out hl1.out).mono ?_; rintro e w' ⟨rfl, x2, rfl⟩)
                    go_ret; exact ⟨ret_bool (hbad.out (by simp [ruleOK, g2.out, hC])).symm, hdown.out x2⟩
                  · go_wp2_with (go_at_call 88; refine (rpair x2 _ _ _ _ _ _ p (nth p.rules k) hp2.out hr2.out hl1.out).mono ?_; rintro e w' ⟨rfl, x2, rfl⟩)
                    go_roundw
                    case rel => exact hgood.out x2 (by simp [ruleOK, g2.out, hC])
                    case measure => simp [intOf]; omega
                · have f2 : ((nth p.rules k).kind != 1) = true := by simp [g1]
                  have f4 : ((nth p.rules k).kind != 2) = true := by simp [g2]
                  have hq : ruleOK p (nth p.rules k) = false := by simp [ruleOK, g1, g2]
                  replace hq := Lib.hid hq
                  clear g1 g2
                  go_wp2
                  go_ret; exact ⟨ret_bool (hbad.out hq.out).symm, hdown.out x2⟩
        · obtain rfl : k = p.rules.length := by omega
          have hend := Lib.hid (valid_end ⟨hl1.out, hl2⟩ hpan.out hrul.out)
          go_wp2_with (go_at_call 26; refine (rItems x _ _ _ p HP.out).mono ?_; rintro e w' ⟨v, rfl, y, rfl, hI⟩; obtain ⟨a, c, rfl, _, _⟩ := hI)
          go_ret; exact ⟨ret_bool (by rw [hend.out, decide_eq_decide]; omega), y.down hb1⟩
end Go.Proofs.Ytmpkbolabdmkkaa
