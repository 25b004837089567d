/- CONTRACT of places' Valid. -/
import Derived.Test.YtmpkbolabdmkkaaPlD
namespace Go.Proofs.Ytmpkbolabdmkkaa
open Go.RowKit

theorem items_one {l : List Rl} {k : Nat} (h : k = 0 ∨ (nth l k).item ≠ (nth l (k - 1)).item) : (itemsTo l (k + 1)).length = (itemsTo l k).length + 1 := by
  show (if _ then _ else _ : List Int).length = _; rw [if_pos h]; simp
theorem items_same {l : List Rl} {k : Nat} (h : ¬ k = 0) (h' : (nth l k).item = (nth l (k - 1)).item) : (itemsTo l (k + 1)).length = (itemsTo l k).length := by
  show (if _ then _ else _ : List Int).length = _; rw [if_neg (by rintro (e | e); exact h e; exact e h')]

set_option maxRecDepth 100000 in
set_option maxHeartbeats 4000000 in
theorem pValid {W : World} (x : Later W) (v0 v1 v2 : Value) (p : Prob) (hp : IsProb W v0 v1 v2 p) :
    Calls Try.prog 36 #[.agg #[v0, v1, v2]] x.w (Ends W (.bool (validP p))) := by
  go_enter Try.func36, Try.ntmps36
  go_upto_region 1 with (fail)
  obtain ⟨W1, x1, e1, hb1, s1, p0, p1, p2⟩ := enter3 x v0 v1 v2 26
  rw [e1]; clear e1
  replace hp := hp.below hb1
  have HP := Lib.hid hp
  obtain ⟨ap, cp, rfl, lp, hpanes⟩ := hp.panes.opened
  obtain ⟨ao, co, rfl, lo, hopts⟩ := hp.opts.opened
  obtain ⟨ar, cr, rfl, lr, hr⟩ := hp.rules.opened
  clear hp
  by_cases hl : p.opts.length = p.panes.length ∧ p.rules.length ≤ 256
  case neg =>
    have hno := Lib.hid (valid_no1 hl)
    by_cases g1 : p.opts.length = p.panes.length
    · have g1' : (p.opts.length : Int) = p.panes.length := by omega
      have g2 : 256 < p.rules.length := by omega
      replace g1 := Lib.hid g1
      clear hl
      go_wp2
      go_ret; exact ⟨ret_bool hno.out.symm, x1.down hb1⟩
    · clear hl
      go_wp2
      all_goals (go_ret; exact ⟨ret_bool hno.out.symm, x1.down hb1⟩)
  obtain ⟨hl1, hl2⟩ := hl
  have hl1' : (p.opts.length : Int) = p.panes.length := by omega
  replace hl1 := Lib.hid hl1
  go_wp2
  go_loopw [24] (fun i wr => ∃ k : Nat, k ≤ p.panes.length ∧ i = .int .i64 k ∧ (∃ y : Later W1, wr = y.w) ∧ (∀ i, i < k → paneOK p i = true)) (fun i _ => p.panes.length - (intOf i).toNat)
  case atStart => exact ⟨0, Nat.zero_le _, rfl, ⟨x1, rfl⟩, by omega⟩
  case round =>
    obtain ⟨k, hk, rfl, ⟨x, rfl⟩, hpan⟩ := hrel
    replace hpan := Lib.hid hpan
    by_cases hlt : k < p.panes.length
    · have hbad := Lib.hid (@valid_no2 p k hlt)
      have hko : k < p.opts.length := by have := hl1.out; omega
      obtain ⟨b, o, rfl, hb, c0⟩ := hpanes.out k hlt
      obtain ⟨bo, oo, rfl, hbo, uo, co0, hO⟩ := hopts.out k hko
      cases hA : wi (nth p.panes k) 1 64
      · go_wp2_with (go_at_call 94; refine (pwithin _ _ _ _).mono ?_; rintro e w' ⟨rfl, rfl⟩)
        go_ret; exact ⟨ret_bool (hbad.out (.inl hA)).symm, x.down hb1⟩
      by_cases h2 : 0 < k
      · obtain ⟨_, _, he, _, d0⟩ := hpanes.out (k - 1) (by omega)
        cases he
        cases h3 : decide (nth p.panes k ≤ nth p.panes (k - 1))
        · cases h4 : optsOK (nth p.opts k)
          · go_wp2_with (first | (go_at_call 94; refine (pwithin _ _ _ _).mono ?_; rintro e w' ⟨rfl, rfl⟩) | (go_at_call 95; refine (poptions x _ _ hO).mono ?_; rintro e w' ⟨rfl, x, rfl⟩))
            go_ret; exact ⟨ret_bool (hbad.out (.inr (.inr h4))).symm, x.down hb1⟩
          · go_wp2_with (first | (go_at_call 94; refine (pwithin _ _ _ _).mono ?_; rintro e w' ⟨rfl, rfl⟩) | (go_at_call 95; refine (poptions x _ _ hO).mono ?_; rintro e w' ⟨rfl, x, rfl⟩))
            go_roundw
            case rel => exact ⟨k + 1, by omega, by go_num, ⟨x, rfl⟩, all_step hpan.out (paneOK_iff.2 ⟨hA, fun _ => by simpa using h3, h4⟩)⟩
            case measure => simp [intOf]; omega
        · go_wp2_with (go_at_call 94; refine (pwithin _ _ _ _).mono ?_; rintro e w' ⟨rfl, rfl⟩)
          go_ret; exact ⟨ret_bool (hbad.out (.inr (.inl ⟨h2, by simpa using h3⟩))).symm, x.down hb1⟩
      · cases h4 : optsOK (nth p.opts k)
        · go_wp2_with (first | (go_at_call 94; refine (pwithin _ _ _ _).mono ?_; rintro e w' ⟨rfl, rfl⟩) | (go_at_call 95; refine (poptions x _ _ hO).mono ?_; rintro e w' ⟨rfl, x, rfl⟩))
          go_ret; exact ⟨ret_bool (hbad.out (.inr (.inr h4))).symm, x.down hb1⟩
        · go_wp2_with (first | (go_at_call 94; refine (pwithin _ _ _ _).mono ?_; rintro e w' ⟨rfl, rfl⟩) | (go_at_call 95; refine (poptions x _ _ hO).mono ?_; rintro e w' ⟨rfl, x, rfl⟩))
          go_roundw
          case rel => exact ⟨k + 1, by omega, by go_num, ⟨x, rfl⟩, all_step hpan.out (paneOK_iff.2 ⟨hA, fun h => absurd h h2, h4⟩)⟩
          case measure => simp [intOf]; omega
    · obtain rfl : k = p.panes.length := by omega
      go_wp2
      go_loopw [5, 59] (fun n i wr => ∃ k m : Nat, k ≤ p.rules.length ∧ m ≤ k ∧ n = .int .i64 m ∧ i = .int .i64 k ∧ (∃ y : Later W1, wr = y.w) ∧ (itemsTo p.rules k).length = m ∧ (∀ i, i < k → ruleAtOK p i = true)) (fun _ i _ => p.rules.length - (intOf i).toNat)
      case atStart => exact ⟨0, 0, Nat.zero_le _, Nat.zero_le _, rfl, rfl, ⟨x, rfl⟩, rfl, by omega⟩
      case round =>
        obtain ⟨k, m, hk, hm, rfl, rfl, ⟨x, rfl⟩, hn, hrul⟩ := hrel
        replace hrul := Lib.hid hrul
        replace hn := Lib.hid hn
        by_cases hlt : k < p.rules.length
        · have hbad := Lib.hid (@valid_no3 p k hlt)
          obtain ⟨b, o, rfl, hb, u2, u3, u6, c0, c1, c2, c3, c4, c5, c6, hR⟩ := hr.out k hlt
          have HR := Lib.hid hR
          obtain ⟨aq, cq, rfl, _, _⟩ := hR.panes.opened
          obtain ⟨ah, ch, rfl, _, _⟩ := hR.hits.opened
          obtain ⟨ak, ck, rfl, _, _⟩ := hR.ok.opened
          clear hR
          go_upto_region 13 with (fail)
          obtain ⟨W2, x2, e2, hb2, s2, q0, q1, q2, q3, q4, q5, q6⟩ := enter7 x (.int .i64 (nth p.rules k).item) (.int .i64 (nth p.rules k).kind) (.slice aq (nth p.rules k).panes.length cq) (.slice ah (nth p.rules k).hits.length ch) (.int .i64 (nth p.rules k).lo) (.int .i64 (nth p.rules k).hi) (.slice ak (nth p.rules k).ok.length ck) 87
          rw [e2]; clear e2
          replace p0 := Later.cells hb2 p0
          replace p1 := Later.cells hb2 p1
          replace p2 := Later.cells hb2 p2
          replace c0 := Later.cells hb2 c0
          replace hb := Later.sizes hb2 hb
          replace s1 := Later.sizes hb2 s1
          clear c1 c2 c3 c4 c5 c6
          have hp2 := Lib.hid (HP.out.below hb2)
          have hr2 := Lib.hid (HR.out.below hb2)
          have hdown : ∀ y : Later W2, ∃ z : Later W, y.w = z.w := fun y => y.down (hb1.trans (hb2.mono hb1.size))
          replace hdown := Lib.hid hdown
          have hup : ∀ y : Later W2, ∃ z : Later W1, y.w = z.w := fun y => y.down hb2
          replace hup := Lib.hid hup
          cases hA : wi (nth p.rules k).item 1 65535
          · refine wp_region_later x2 (by kernel_rfl) (by kernel_rfl) ?_
            repeat (go_big_quiet_step ((go_at_call 94; exact calls_same (pwithin _ _ _ _))))
            refine wpQuiet_nil ?_
            rintro _ ⟨x2, rfl⟩
            go_wp2
            go_ret; exact ⟨ret_bool (hbad.out (.inl hA)).symm, hdown.out x2⟩
          by_cases h2 : 0 < k
          · obtain ⟨_, _, he, _, _, _, _, d0, _, _, _, _, _, _, _⟩ := hr.out (k - 1) (by omega)
            cases he
            replace d0 := Later.cells hb2 d0
            cases h3 : decide ((nth p.rules k).item < (nth p.rules (k - 1)).item)
            · cases hB : ruleOK p (nth p.rules k)
              · refine wp_region_later x2 (by kernel_rfl) (by kernel_rfl) ?_
                repeat (go_big_quiet_step ((first | (go_at_call 94; exact calls_same (pwithin _ _ _ _)) | (go_at_call 96; exact prule _ _ _ _ _ _ _ p (nth p.rules k) hp2.out hr2.out hl1.out))))
                refine wpQuiet_nil ?_
                rintro _ ⟨x2, rfl⟩
                rw [hB]
                go_wp2
                go_ret; exact ⟨ret_bool (hbad.out (.inr (.inr hB))).symm, hdown.out x2⟩
              · refine wp_region_later x2 (by kernel_rfl) (by kernel_rfl) ?_
                repeat (go_big_quiet_step ((first | (go_at_call 94; exact calls_same (pwithin _ _ _ _)) | (go_at_call 96; exact prule _ _ _ _ _ _ _ p (nth p.rules k) hp2.out hr2.out hl1.out))))
                refine wpQuiet_nil ?_
                rintro _ ⟨x2, rfl⟩
                rw [hB]
                go_wp2
                have hall := Lib.hid (all_step hrul.out (ruleAtOK_iff.2 ⟨hA, fun _ => by simpa using h3, hB⟩))
                have hk0 : ¬ k = 0 := by omega
                have hk0' : ((k : Int) == 0) = false := by simp; omega
                replace hk0 := Lib.hid hk0
                cases h5 : (nth p.rules k).item != (nth p.rules (k - 1)).item
                · refine wp_region_later x2 (by kernel_rfl) (by kernel_rfl) ?_
                  repeat (go_big_quiet_step (fail))
                  refine wpQuiet_nil ?_
                  rintro _ ⟨x2, rfl⟩
                  go_wp2
                  go_roundw
                  case rel => exact ⟨k + 1, m, by omega, by omega, rfl, by go_num, hup.out x2, (items_same hk0.out (eq_bneI h5)).trans hn.out, hall.out⟩
                  case measure => simp [intOf]; omega
                · refine wp_region_later x2 (by kernel_rfl) (by kernel_rfl) ?_
                  repeat (go_big_quiet_step (fail))
                  refine wpQuiet_nil ?_
                  rintro _ ⟨x2, rfl⟩
                  go_wp2
                  go_roundw
                  case rel => exact ⟨k + 1, m + 1, by omega, by omega, by go_num, by go_num, hup.out x2, by rw [items_one (.inr (ne_bneI h5)), hn.out], hall.out⟩
                  case measure => simp [intOf]; omega
            · refine wp_region_later x2 (by kernel_rfl) (by kernel_rfl) ?_
              repeat (go_big_quiet_step ((first | (go_at_call 94; exact calls_same (pwithin _ _ _ _)))))
              refine wpQuiet_nil ?_
              rintro _ ⟨x2, rfl⟩
              go_wp2
              go_ret; exact ⟨ret_bool (hbad.out (.inr (.inl ⟨h2, by simpa using h3⟩))).symm, hdown.out x2⟩
          · obtain rfl : k = 0 := by omega
            cases hB : ruleOK p (nth p.rules 0)
            · refine wp_region_later x2 (by kernel_rfl) (by kernel_rfl) ?_
              repeat (go_big_quiet_step ((first | (go_at_call 94; exact calls_same (pwithin _ _ _ _)) | (go_at_call 96; exact prule _ _ _ _ _ _ _ p (nth p.rules 0) hp2.out hr2.out hl1.out))))
              refine wpQuiet_nil ?_
              rintro _ ⟨x2, rfl⟩
              rw [hB]
              go_wp2
              go_ret; exact ⟨ret_bool (hbad.out (.inr (.inr hB))).symm, hdown.out x2⟩
            · refine wp_region_later x2 (by kernel_rfl) (by kernel_rfl) ?_
              repeat (go_big_quiet_step ((first | (go_at_call 94; exact calls_same (pwithin _ _ _ _)) | (go_at_call 96; exact prule _ _ _ _ _ _ _ p (nth p.rules 0) hp2.out hr2.out hl1.out))))
              refine wpQuiet_nil ?_
              rintro _ ⟨x2, rfl⟩
              rw [hB]
              go_wp2
              have hall := Lib.hid (all_step hrul.out (ruleAtOK_iff.2 ⟨hA, fun h => absurd h h2, hB⟩))
              refine wp_region_later x2 (by kernel_rfl) (by kernel_rfl) ?_
              repeat (go_big_quiet_step (fail))
              refine wpQuiet_nil ?_
              rintro _ ⟨x2, rfl⟩
              go_wp2
              go_roundw
              case rel => exact ⟨1, m + 1, by omega, by omega, by go_num, by go_num, hup.out x2, by rw [items_one (.inl rfl), hn.out], hall.out⟩
              case measure => simp [intOf]; omega
        · obtain rfl : k = p.rules.length := by omega
          have hend := Lib.hid (valid_end ⟨hl1.out, hl2⟩ hpan.out hrul.out)
          go_wp2
          go_ret; exact ⟨ret_bool (by rw [hend.out, decide_eq_decide]; unfold items; rw [hn.out]; omega), x.down hb1⟩
end Go.Proofs.Ytmpkbolabdmkkaa
