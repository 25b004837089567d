/- CONTRACT of places' Valid. -/
import Derived.Test.YtmpkbolabdmkkaaZf
import Derived.Test.YtmpkbolabdmkkaaZa
import Derived.Test.YtmpkbolabdmkkaaZc
namespace Go.Proofs.Ytmpkbolabdmkkaa
open Go.RowKit

theorem items_one {l : List Rl} {k : Nat} (h : k = 0 ∨ (nth l k).item ≠ (nth l (k - 1)).item) : (itemsTo l (k + 1)).length = (itemsTo l k).length + 1 := by
  show (if _ then _ else _ : List Int).length = _; rw [if_pos h]; simp
theorem items_same {l : List Rl} {k : Nat} (h : ¬ k = 0) (h' : (nth l k).item = (nth l (k - 1)).item) : (itemsTo l (k + 1)).length = (itemsTo l k).length := by
  show (if _ then _ else _ : List Int).length = _; rw [if_neg (by rintro (e | e); exact h e; exact e h')]

set_option maxRecDepth 100000 in
set_option maxHeartbeats 4000000 in
theorem pValid {W : World} (x : Later W) (v0 v1 v2 : Value) (p : Prob) (hp : IsProb W v0 v1 v2 p) :
    Calls Try.prog 36 #[.agg #[v0, v1, v2]] x.w (Ends W (.bool (validP p))) := by
  go_enter Try.func36, Try.ntmps36
  go_upto_region 1 with (fail)
  obtain ⟨W1, x1, e1, hb1, s1, p0, p1, p2⟩ := enter3 x v0 v1 v2 26
  rw [e1]; clear e1
  replace hp := hp.below hb1
  have HP := Lib.hid hp
  obtain ⟨ap, cp, rfl, lp, hpanes⟩ := hp.panes.opened
  obtain ⟨ao, co, rfl, lo, hopts⟩ := hp.opts.opened
  obtain ⟨ar, cr, rfl, lr, hr⟩ := hp.rules.opened
  clear hp
  by_cases hl : p.opts.length = p.panes.length ∧ p.rules.length ≤ 256
  case neg =>
    have hno := Lib.hid (valid_no1 hl)
    by_cases g1 : p.opts.length = p.panes.length
    · have g1' : (p.opts.length : Int) = p.panes.length := by omega
      have g2 : 256 < p.rules.length := by omega
      replace g1 := Lib.hid g1
      clear hl
      go_wp2
      go_ret; exact ⟨ret_bool hno.out.symm, x1.down hb1⟩
    · clear hl
      go_wp2
      all_goals (go_ret; exact ⟨ret_bool hno.out.symm, x1.down hb1⟩)
  obtain ⟨hl1, hl2⟩ := hl
  have hl1' : (p.opts.length : Int) = p.panes.length := by omega
  replace hl1 := Lib.hid hl1
  go_wp2
  go_loopw [24] (fun i wr => ∃ k : Nat, k ≤ p.panes.length ∧ i = .int .i64 k ∧ (∃ y : Later W1, wr = y.w) ∧ (∀ i, i < k → paneOK p i = true)) (fun i _ => p.panes.length - (intOf i).toNat)
  case atStart => exact ⟨0, Nat.zero_le _, rfl, ⟨x1, rfl⟩, by omega⟩
  case round =>
    obtain ⟨k, hk, rfl, ⟨x, rfl⟩, hpan⟩ := hrel
    replace hpan := Lib.hid hpan
    by_cases hlt : k < p.panes.length
    · have hbad := Lib.hid (@valid_no2 p k hlt)
      have hko : k < p.opts.length := by have := hl1.out; omega
      obtain ⟨b, o, rfl, hb, c0⟩ := hpanes.out k hlt
      obtain ⟨bo, oo, rfl, hbo, uo, co0, hO⟩ := hopts.out k hko
      cases hA : wi (nth p.panes k) 1 64
      · go_wp2_with (go_at_call 94; refine (pwithin _ _ _ _).mono ?_; rintro e w' ⟨rfl, rfl⟩)
        go_ret; exact ⟨ret_bool (hbad.out (.inl hA)).symm, x.down hb1⟩
      by_cases h2 : 0 < k
      · obtain ⟨_, _, he, _, d0⟩ := hpanes.out (k - 1) (by omega)
        cases he
        cases h3 : decide (nth p.panes k ≤ nth p.panes (k - 1))
        · cases h4 : optsOK (nth p.opts k)
          · go_wp2_with (first | (go_at_call 94; refine (pwithin _ _ _ _).mono ?_; rintro e w' ⟨rfl, rfl⟩) | (go_at_call 95; refine (poptions x _ _ hO).mono ?_; rintro e w' ⟨rfl, x, rfl⟩))
            go_ret; exact ⟨ret_bool (hbad.out (.inr (.inr h4))).symm, x.down hb1⟩
          · go_wp2_with (first | (go_at_call 94; refine (pwithin _ _ _ _).mono ?_; rintro e w' ⟨rfl, rfl⟩) | (go_at_call 95; refine (poptions x _ _ hO).mono ?_; rintro e w' ⟨rfl, x, rfl⟩))
            go_roundw
            case rel => exact ⟨k + 1, by omega, by go_num, ⟨x, rfl⟩, all_step hpan.out (paneOK_iff.2 ⟨hA, fun _ => by simpa using h3, h4⟩)⟩
            case measure => simp [intOf]; omega
        · go_wp2_with (go_at_call 94; refine (pwithin _ _ _ _).mono ?_; rintro e w' ⟨rfl, rfl⟩)
          go_ret; exact ⟨ret_bool (hbad.out (.inr (.inl ⟨h2, by simpa using h3⟩))).symm, x.down hb1⟩
      · cases h4 : optsOK (nth p.opts k)
        · go_wp2_with (first | (go_at_call 94; refine (pwithin _ _ _ _).mono ?_; rintro e w' ⟨rfl, rfl⟩) | (go_at_call 95; refine (poptions x _ _ hO).mono ?_; rintro e w' ⟨rfl, x, rfl⟩))
          go_ret; exact ⟨ret_bool (hbad.out (.inr (.inr h4))).symm, x.down hb1⟩
        · go_wp2_with (first | (go_at_call 94; refine (pwithin _ _ _ _).mono ?_; rintro e w' ⟨rfl, rfl⟩) | (go_at_call 95; refine (poptions x _ _ hO).mono ?_; rintro e w' ⟨rfl, x, rfl⟩))
          go_roundw
          case rel => exact ⟨k + 1, by omega, by go_num, ⟨x, rfl⟩, all_step hpan.out (paneOK_iff.2 ⟨hA, fun h => absurd h h2, h4⟩)⟩
          case measure => simp [intOf]; omega
    · obtain rfl : k = p.panes.length := by omega
      go_wp2
      go_loopw [5, 59] (fun n i wr => ∃ k m : Nat, k ≤ p.rules.length ∧ m ≤ k ∧ n = .int .i64 m ∧ i = .int .i64 k ∧ (∃ y : Later W1, wr = y.w) ∧ (itemsTo p.rules k).length = m ∧ (∀ i, i < k → ruleAtOK p i = true)) (fun _ i _ => p.rules.length - (intOf i).toNat)
      case atStart => exact ⟨0, 0, Nat.zero_le _, Nat.zero_le _, rfl, rfl, ⟨x, rfl⟩, rfl, by omega⟩
      case round =>
        obtain ⟨k, m, hk, hm, rfl, rfl, ⟨x, rfl⟩, hn, hrul⟩ := hrel
        replace hrul := Lib.hid hrul
        replace hn := Lib.hid hn
        by_cases hlt : k < p.rules.length
        · have hbad := Lib.hid (@valid_no3 p k hlt)
          obtain ⟨b, o, rfl, hb, u2, u3, u6, c0, c1, c2, c3, c4, c5, c6, hR⟩ := hr.out k hlt
          have HR := Lib.hid hR
          obtain ⟨aq, cq, rfl, _, _⟩ := hR.panes.opened
          obtain ⟨ah, ch, rfl, _, _⟩ := hR.hits.opened
          obtain ⟨ak, ck, rfl, _, _⟩ := hR.ok.opened
          clear hR
          go_upto_region 13 with (fail)
          obtain ⟨W2, x2, e2, hb2, s2, q0, q1, q2, q3, q4, q5, q6⟩ := enter7 x (.int .i64 (nth p.rules k).item) (.int .i64 (nth p.rules k).kind) (.slice aq (nth p.rules k).panes.length cq) (.slice ah (nth p.rules k).hits.length ch) (.int .i64 (nth p.rules k).lo) (.int .i64 (nth p.rules k).hi) (.slice ak (nth p.rules k).ok.length ck) 87
          rw [e2]; clear e2
          replace p0 := Later.cells hb2 p0
          replace p1 := Later.cells hb2 p1
          replace p2 := Later.cells hb2 p2
          replace c0 := Later.cells hb2 c0
          replace hb := Later.sizes hb2 hb
          replace s1 := Later.sizes hb2 s1
          clear c1 c2 c3 c4 c5 c6
          have hp2 := Lib.hid (HP.out.below hb2)
          have hr2 := Lib.hid (HR.out.below hb2)
          have hdown : ∀ y : Later W2, ∃ z : Later W, y.w = z.w := fun y => y.down (hb1.trans (hb2.mono hb1.size))
          replace hdown := Lib.hid hdown
          have hup : ∀ y : Later W2, ∃ z : Later W1, y.w = z.w := fun y => y.down hb2
          replace hup := Lib.hid hup
          cases hA : wi (nth p.rules k).item 1 65535
          · refine wp_region_later x2 (by kernel_rfl) (by kernel_rfl) ?_
            repeat (go_big_quiet_step ((go_at_call 94; exact calls_same (pwithin _ _ _ _))))
            refine wpQuiet_nil ?_
            rintro _ ⟨x2, rfl⟩
            go_wp2
            go_ret; exact ⟨ret_bool (hbad.out (.inl hA)).symm, hdown.out x2⟩
          by_cases h2 : 0 < k
          · obtain ⟨_, _, he, _, _, _, _, d0, _, _, _, _, _, _, _⟩ := hr.out (k - 1) (by omega)
            cases he
            replace d0 := Later.cells hb2 d0
            cases h3 : decide ((nth p.rules k).item < (nth p.rules (k - 1)).item)
            · cases hB : ruleOK p (nth p.rules k)
              · refine wp_region_later x2 (by kernel_rfl) (by kernel_rfl) ?_
                repeat (go_big_quiet_step ((first | (go_at_call 94; exact calls_same (pwithin _ _ _ _)) | (go_at_call 96; exact prule _ _ _ _ _ _ _ p (nth p.rules k) hp2.out hr2.out hl1.out))))
                refine wpQuiet_nil ?_
                rintro _ ⟨x2, rfl⟩
                rw [hB]
                go_wp2
                go_ret; exact ⟨ret_bool (hbad.out (.inr (.inr hB))).symm, hdown.out x2⟩
              · refine wp_region_later x2 (by kernel_rfl) (by kernel_rfl) ?_
                repeat (go_big_quiet_step ((first | (go_at_call 94; exact calls_same (pwithin _ _ _ _)) | (go_at_call 96; exact prule _ _ _ _ _ _ _ p (nth p.rules k) hp2.out hr2.out hl1.out))))
                refine wpQuiet_nil ?_
                rintro _ ⟨x2, rfl⟩
                rw [hB]
                go_wp2
                have hall := Lib.hid (all_step hrul.out (ruleAtOK_iff.2 ⟨hA, fun _ => by simpa using h3, hB⟩))
                have hk0 : ¬ k = 0 := by omega
                have hk0' : ((k : Int) == 0) = false := by simp; omega
                replace hk0 := Lib.hid hk0
                cases h5 : (nth p.rules k).item != (nth p.rules (k - 1)).item
                · refine wp_region_later x2 (by kernel_rfl) (by kernel_rfl) ?_
                  repeat (go_big_quiet_step (fail))
                  refine wpQuiet_nil ?_
                  rintro _ ⟨x2, rfl⟩
                  go_wp2
                  go_roundw
                  case rel => exact ⟨k + 1, m, by omega, by omega, rfl, by go_num, hup.out x2, (items_same hk0.out (eq_bneI h5)).trans hn.out, hall.out⟩
                  case measure => simp [intOf]; omega
                · refine wp_region_later x2 (by kernel_rfl) (by kernel_rfl) ?_
                  repeat (go_big_quiet_step (fail))
                  refine wpQuiet_nil ?_
                  rintro _ ⟨x2, rfl⟩
                  go_wp2
                  go_roundw
                  case rel => exact ⟨k + 1, m + 1, by omega, by omega, by go_num, by go_num, hup.out x2, by rw [items_one (.inr (ne_bneI h5)), hn.out], hall.out⟩
                  case measure => simp [intOf]; omega
            · refine wp_region_later x2 (by kernel_rfl) (by kernel_rfl) ?_
              repeat (go_big_quiet_step ((first | (go_at_call 94; exact calls_same (pwithin _ _ _ _)))))
              refine wpQuiet_nil ?_
              rintro _ ⟨x2, rfl⟩
              go_wp2
              go_ret; exact ⟨ret_bool (hbad.out (.inr (.inl ⟨h2, by simpa using h3⟩))).symm, hdown.out x2⟩
          · obtain rfl : k = 0 := by omega
            cases hB : ruleOK p (nth p.rules 0)
            · refine wp_region_later x2 (by kernel_rfl) (by kernel_rfl) ?_
              repeat (go_big_quiet_step ((first | (go_at_call 94; exact calls_same (pwithin _ _ _ _)) | (go_at_call 96; exact prule _ _ _ _ _ _ _ p (nth p.rules 0) hp2.out hr2.out hl1.out))))
              refine wpQuiet_nil ?_
              rintro _ ⟨x2, rfl⟩
              rw [hB]
              go_wp2
              go_ret; exact ⟨ret_bool (hbad.out (.inr (.inr hB))).symm, hdown.out x2⟩
            · refine wp_region_later x2 (by kernel_rfl) (by kernel_rfl) ?_
              repeat (go_big_quiet_step ((first | (go_at_call 94; exact calls_same (pwithin _ _ _ _)) | (go_at_call 96; exact prule _ _ _ _ _ _ _ p (nth p.rules 0) hp2.out hr2.out hl1.out))))
              refine wpQuiet_nil ?_
              rintro _ ⟨x2, rfl⟩
              rw [hB]
              go_wp2
              have hall := Lib.hid (all_step hrul.out (ruleAtOK_iff.2 ⟨hA, fun h => absurd h h2, hB⟩))
              refine wp_region_later x2 (by kernel_rfl) (by kernel_rfl) ?_
              repeat (go_big_quiet_step (fail))
              refine wpQuiet_nil ?_
              rintro _ ⟨x2, rfl⟩
              go_wp2
              go_roundw
              case rel => exact ⟨1, m + 1, by omega, by omega, by go_num, by go_num, hup.out x2, by rw [items_one (.inl rfl), hn.out], hall.out⟩
              case measure => simp [intOf]; omega
        · obtain rfl : k = p.rules.length := by omega
          have hend := Lib.hid (valid_end ⟨hl1.out, hl2⟩ hpan.out hrul.out)
          go_wp2
          go_ret; exact ⟨ret_bool (by rw [hend.out, decide_eq_decide]; unfold items; rw [hn.out]; omega), x.down hb1⟩
end Go.Proofs.Ytmpkbolabdmkkaa

/- CONTRACTS of places' sound, space, filling. -/
namespace Go.Proofs.Ytmpkbolabdmkkaa
open Go.RowKit

set_option maxRecDepth 100000 in
set_option maxHeartbeats 1000000 in
theorem psound {W : World} (x : Later W) (v0 v1 v2 vf : Value) (p : Prob) (f : List Int) (hp : IsProb W v0 v1 v2 p) (hf : IsInts W vf f) (hlen : f.length = p.opts.length) (hfill : ∀ i, i < f.length → 0 ≤ nth f i ∧ nth f i < (nth p.opts i).length) :
    Calls Try.prog 91 #[.agg #[v0, v1, v2], vf] x.w (Ends W (.bool (soundB p f))) := by
  replace hlen := Lib.hid hlen
  replace hfill := Lib.hid hfill
  have hbad := Lib.hid (fun i k => @soundB_bad p f i k)
  have hyes := Lib.hid (@soundB_yes p f)
  go_enter Try.func91, Try.ntmps91
  go_upto_region 1 with (fail)
  obtain ⟨W1, x1, e1, hb1, s1, p0, p1, p2⟩ := enter3 x v0 v1 v2 26
  rw [e1]; clear e1
  obtain ⟨ao, co, rfl, lo, hopts⟩ := (hp.opts.below hb1).opened
  obtain ⟨af, cf, rfl, lf, hfs⟩ := (hf.below hb1).opened
  clear hp hf
  go_wp2
  go_loopw [11] (fun i wr => ∃ k : Nat, k ≤ f.length ∧ i = .int .i64 k ∧ (∃ y : Later W1, wr = y.w) ∧ (∀ i, i < k → ∀ k, k < i → ¬ (0 < pieceAt p f i ∧ pieceAt p f i = pieceAt p f k))) (fun i _ => f.length - (intOf i).toNat)
  case atStart => exact ⟨0, Nat.zero_le _, rfl, ⟨x1, rfl⟩, by omega⟩
  case round =>
    obtain ⟨k, hk, rfl, ⟨x, rfl⟩, hout⟩ := hrel
    replace hout := Lib.hid hout
    by_cases hlt : k < f.length
    · have hko : k < p.opts.length := by have := hlen.out; omega
      have hfk := hfill.out k hlt
      obtain ⟨bf, of, rfl, hbf, c0⟩ := hfs.out k hlt
      obtain ⟨bo, oo, rfl, hbo, uo, co0, hO⟩ := hopts.out k hko
      obtain ⟨av, cv, rfl, lv, hV⟩ := hO.opened
      obtain ⟨bv, ov, rfl, hbv, d0, _, _, _⟩ := hV.out (nth f k).toNat (by omega)
      have e0 : pieceAt p f k = (nth (nth p.opts k) (nth f k).toNat).piece := rfl
      rw [← e0] at d0
      clear hV e0
      go_wp2
      go_loopw [17] (fun i wr => ∃ m : Nat, m ≤ k ∧ i = .int .i64 m ∧ (∃ y : Later W1, wr = y.w) ∧ (∀ m', m' < m → ¬ (0 < pieceAt p f k ∧ pieceAt p f k = pieceAt p f m'))) (fun i _ => k - (intOf i).toNat)
      case atStart => exact ⟨0, Nat.zero_le _, rfl, ⟨x, rfl⟩, by omega⟩
      case round =>
        obtain ⟨m, hm, rfl, ⟨x, rfl⟩, hin⟩ := hrel
        replace hin := Lib.hid hin
        by_cases hlt' : m < k
        · have hmo : m < p.opts.length := by have := hlen.out; omega
          have hmf : m < f.length := by omega
          have hfm := hfill.out m hmf
          obtain ⟨_, _, he, _, c1⟩ := hfs.out m hmf
          cases he
          obtain ⟨_, _, he, _, u1, co1, hO1⟩ := hopts.out m hmo
          cases he
          obtain ⟨av1, cv1, rfl, lv1, hV1⟩ := hO1.opened
          obtain ⟨bv1, ov1, rfl, hbv1, d1, _, _, _⟩ := hV1.out (nth f m).toNat (by omega)
          have e1 : pieceAt p f m = (nth (nth p.opts m) (nth f m).toNat).piece := rfl
          rw [← e1] at d1
          clear hV1 e1
          cases hA : decide (0 < pieceAt p f k)
          · go_wp2
            refine wp_region_later x (by kernel_rfl) (by kernel_rfl) ?_
            repeat (go_big_quiet_step (fail))
            refine wpQuiet_nil ?_
            rintro _ ⟨x, rfl⟩
            go_wp2
            go_roundw
            case rel => exact ⟨m + 1, by omega, by go_num, ⟨x, rfl⟩, all_step hin.out (fun h => by simp [h.1] at hA)⟩
            case measure => simp [intOf]; omega
          · go_wp2
            refine wp_region_later x (by kernel_rfl) (by kernel_rfl) ?_
            repeat (go_big_quiet_step (fail))
            refine wpQuiet_nil ?_
            rintro _ ⟨x, rfl⟩
            go_wp2
            · go_ret; exact ⟨ret_bool (hbad.out _ _ hlt hlt' (by simpa using hA) (eq_beqI (by assumption))).symm, x.down hb1⟩
            · go_roundw
              case rel => exact ⟨m + 1, by omega, by go_num, ⟨x, rfl⟩, all_step hin.out (fun h => ne_beqI (by assumption) h.2)⟩
              case measure => simp [intOf]; omega
        · obtain rfl : m = k := by omega
          go_wp2
          go_roundw
          case rel => exact ⟨m + 1, by omega, by go_num, ⟨x, rfl⟩, all_step hout.out hin.out⟩
          case measure => simp [intOf]; omega
    · obtain rfl : k = f.length := by omega
      go_wp2
      go_ret; exact ⟨ret_bool (hyes.out hout.out).symm, x.down hb1⟩

/-- the product as places reckons it: it stops growing above a limit -/
def lspaceTo (lim : Int) (os : List (List Opt)) : Nat → Int
  | 0 => 1
  | k + 1 => if lspaceTo lim os k ≤ lim then lspaceTo lim os k * (nth os k).length else lspaceTo lim os k
theorem lspace_r (os : List (List Opt)) : ∀ k, lspaceTo 1125899906842624 os k = rspaceTo os k
  | 0 => rfl
  | k + 1 => by unfold lspaceTo rspaceTo; rw [lspace_r os k]
theorem lspace_stop {lim : Int} {os : List (List Opt)} {k : Nat} (h : lim < lspaceTo lim os k) : ∀ m, k ≤ m → lspaceTo lim os m = lspaceTo lim os k
  | 0, hm => by have : k = 0 := by omega
                rw [this]
  | m + 1, hm => by
    by_cases he : k = m + 1
    · rw [he]
    · have := lspace_stop h m (by omega)
      rw [lspaceTo, this, if_neg (by omega)]
theorem lspaceTo_bd {lim : Int} {os : List (List Opt)} (h0 : 1 ≤ lim) (hlim : lim ≤ 1125899906842624) (h : ∀ i, i < os.length → (nth os i).length ≤ 300) : ∀ k, k ≤ os.length → 0 ≤ lspaceTo lim os k ∧ lspaceTo lim os k ≤ 337769972052787200
  | 0, _ => ⟨by simp [lspaceTo], by simp [lspaceTo]⟩
  | k + 1, hk => by
    have := lspaceTo_bd h0 hlim h k (by omega)
    have h1 := h k (by omega)
    unfold lspaceTo
    split
    · rename_i h2
      refine ⟨Int.mul_nonneg this.1 (by omega), ?_⟩
      have := Int.mul_le_mul (show lspaceTo lim os k ≤ 1125899906842624 by omega) (show ((nth os k).length : Int) ≤ 300 by omega) (by omega) (by decide)
      omega
    · exact this

set_option maxRecDepth 100000 in
set_option maxHeartbeats 1000000 in
theorem pspace {W : World} (x : Later W) (v0 v1 v2 : Value) (p : Prob) (lim : Int) (hp : IsProb W v0 v1 v2 p) (h0 : 1 ≤ lim) (hlim : lim ≤ 1125899906842624) (h300 : ∀ i, i < p.opts.length → (nth p.opts i).length ≤ 300) :
    Calls Try.prog 89 #[.agg #[v0, v1, v2], .int .i64 lim] x.w (Ends W (.int .i64 (lspaceTo lim p.opts p.opts.length))) := by
  have hbd := Lib.hid (lspaceTo_bd h0 hlim h300)
  have hstop := Lib.hid (fun k => @lspace_stop lim p.opts k)
  clear h300
  go_enter Try.func89, Try.ntmps89
  go_upto_region 1 with (fail)
  obtain ⟨W1, x1, e1, hb1, s1, p0, p1, p2⟩ := enter3 x v0 v1 v2 26
  rw [e1]; clear e1
  obtain ⟨ao, co, rfl, lo, hopts⟩ := (hp.opts.below hb1).opened
  clear hp
  go_wp2
  go_loopw [5, 11] (fun n i wr => ∃ k : Nat, k ≤ p.opts.length ∧ i = .int .i64 k ∧ n = .int .i64 (lspaceTo lim p.opts k) ∧ lspaceTo lim p.opts k ≤ lim ∧ (∃ y : Later W1, wr = y.w)) (fun _ i _ => p.opts.length - (intOf i).toNat)
  case atStart => exact ⟨0, Nat.zero_le _, rfl, rfl, h0, ⟨x1, rfl⟩⟩
  case round =>
    obtain ⟨k, hk, rfl, rfl, hle, ⟨x, rfl⟩⟩ := hrel
    have hbk := hbd.out k hk
    by_cases hlt : k < p.opts.length
    · obtain ⟨bo, oo, rfl, hbo, uo, co0, hO⟩ := hopts.out k hlt
      obtain ⟨av, cv, rfl, lv, _⟩ := hO.opened
      have hb' := hbd.out (k + 1) hlt
      have HS : Hid (lspaceTo lim p.opts (k + 1) = lspaceTo lim p.opts k * (nth p.opts k).length) := Lib.hid (by rw [lspaceTo, if_pos hle])
      rw [HS.out] at hb'
      cases hA : decide (lim < lspaceTo lim p.opts k * (nth p.opts k).length)
      · go_wp2
        go_roundw
        case rel => exact ⟨k + 1, by omega, by go_num, by rw [HS.out], by rw [HS.out]; simpa using hA, ⟨x, rfl⟩⟩
        case measure => simp [intOf]; omega
      · go_wp2
        go_ret; exact ⟨ret_int (by rw [← HS.out]; exact (hstop.out (k + 1) (by rw [HS.out]; simpa using hA) _ (by omega)).symm), x.down hb1⟩
    · obtain rfl : k = p.opts.length := by omega
      go_wp2
      go_ret; exact ⟨ret_int rfl, x.down hb1⟩

set_option maxRecDepth 100000 in
set_option maxHeartbeats 1000000 in
theorem pfilling {W : World} (x : Later W) (v0 v1 v2 vf : Value) (p : Prob) (f : List Int) (hp : IsProb W v0 v1 v2 p) (hf : IsInts W vf f) (hlen : p.opts.length = p.panes.length) :
    Calls Try.prog 135 #[.agg #[v0, v1, v2], vf] x.w (Ends W (.bool (fillB p f))) := by
  replace hlen := Lib.hid hlen
  have hno := Lib.hid (@fillB_no p f)
  have hbad := Lib.hid (fun i => @fillB_bad p f i)
  have hyes := Lib.hid (@fillB_iff p f)
  go_enter Try.func135, Try.ntmps135
  go_upto_region 1 with (fail)
  obtain ⟨W1, x1, e1, hb1, s1, p0, p1, p2⟩ := enter3 x v0 v1 v2 26
  rw [e1]; clear e1
  obtain ⟨ap, cp, rfl, lp, hpanes⟩ := (hp.panes.below hb1).opened
  obtain ⟨ao, co, rfl, lo, hopts⟩ := (hp.opts.below hb1).opened
  obtain ⟨af, cf, rfl, lf, hfs⟩ := (hf.below hb1).opened
  clear hp hf
  by_cases hl : f.length = p.panes.length
  case neg =>
    replace hno := Lib.hid (hno.out hl)
    go_wp2
    all_goals (go_ret; exact ⟨ret_bool hno.out.symm, x1.down hb1⟩)
  have hl' : (f.length : Int) = p.panes.length := by omega
  replace hl := Lib.hid hl
  go_wp2
  go_loopw [15] (fun i wr => ∃ k : Nat, k ≤ f.length ∧ i = .int .i64 k ∧ (∃ y : Later W1, wr = y.w) ∧ (∀ i, i < k → wi (nth f i) 0 (((nth p.opts i).length : Int) - 1) = true)) (fun i _ => f.length - (intOf i).toNat)
  case atStart => exact ⟨0, Nat.zero_le _, rfl, ⟨x1, rfl⟩, by omega⟩
  case round =>
    obtain ⟨k, hk, rfl, ⟨x, rfl⟩, hin⟩ := hrel
    replace hin := Lib.hid hin
    by_cases hlt : k < f.length
    · have hko : k < p.opts.length := by have := hlen.out; have := hl.out; omega
      obtain ⟨bf, of, rfl, hbf, c0⟩ := hfs.out k hlt
      obtain ⟨bo, oo, rfl, hbo, uo, co0, hO⟩ := hopts.out k hko
      obtain ⟨av, cv, rfl, lv, _⟩ := hO.opened
      cases hA : wi (nth f k) 0 (((nth p.opts k).length : Int) - 1)
      · go_wp2_with (go_at_call 94; refine (pwithin _ _ _ _).mono ?_; rintro e w' ⟨rfl, rfl⟩)
        go_ret; exact ⟨ret_bool (hbad.out _ hlt hA).symm, x.down hb1⟩
      · go_wp2_with (go_at_call 94; refine (pwithin _ _ _ _).mono ?_; rintro e w' ⟨rfl, rfl⟩)
        go_roundw
        case rel => exact ⟨k + 1, by omega, by go_num, ⟨x, rfl⟩, all_step hin.out hA⟩
        case measure => simp [intOf]; omega
    · obtain rfl : k = f.length := by omega
      go_wp2
      go_ret; exact ⟨ret_bool (hyes.out.2 ⟨hl.out, hin.out⟩).symm, x.down hb1⟩
end Go.Proofs.Ytmpkbolabdmkkaa

/- CONTRACTS of places' Space, wrong, Sound. -/
namespace Go.Proofs.Ytmpkbolabdmkkaa
open Go.RowKit

theorem pspace50 {W : World} (x : Later W) (v0 v1 v2 : Value) (p : Prob) (hp : IsProb W v0 v1 v2 p) (h300 : ∀ i, i < p.opts.length → (nth p.opts i).length ≤ 300) :
    Calls Try.prog 89 #[.agg #[v0, v1, v2], .int .i64 1125899906842624] x.w (Ends W (.int .i64 (rspace p))) := by
  have h := pspace x v0 v1 v2 p 1125899906842624 hp (by decide) (by decide) h300
  rw [lspace_r] at h; exact h

set_option maxRecDepth 100000 in
set_option maxHeartbeats 1000000 in
theorem pSpace {W : World} (x : Later W) (v0 v1 v2 : Value) (p : Prob) (hp : IsProb W v0 v1 v2 p) :
    Calls Try.prog 32 #[.agg #[v0, v1, v2]] x.w (Ends W (.tuple #[.int .i64 (spaceV p), .int .i64 (spaceE p)])) := by
  go_enter Try.func32, Try.ntmps32
  go_upto_region 1 with (fail)
  obtain ⟨W1, x1, e1, hb1, s1, p0, p1, p2⟩ := enter3 x v0 v1 v2 26
  rw [e1]; clear e1
  have HP := Lib.hid (hp.below hb1)
  obtain ⟨ap, cp, rfl, lp, _⟩ := hp.panes.opened
  obtain ⟨ao, co, rfl, lo, _⟩ := hp.opts.opened
  obtain ⟨ar, cr, rfl, lr, _⟩ := hp.rules.opened
  clear hp
  cases hv : validP p
  · go_wp2_with (go_at_call 36; refine (pValid x1 _ _ _ p HP.out).mono ?_; rintro e w' ⟨rfl, x1, rfl⟩)
    go_ret2; exact ⟨by simp [spaceV, spaceE, hv], x1.down hb1⟩
  · have h300 := Lib.hid (fun i (hi : i < p.opts.length) => Nat.le_trans (valid_opts hv hi).2 (show 256 ≤ 300 by decide))
    cases hA : decide (1125899906842624 < rspace p)
    · go_wp2_with (first | (go_at_call 36; refine (pValid x1 _ _ _ p HP.out).mono ?_; rintro e w' ⟨rfl, x1, rfl⟩) | (go_at_call 89; refine (pspace50 x1 _ _ _ p HP.out h300.out).mono ?_; rintro e w' ⟨rfl, x1, rfl⟩))
      go_ret2; exact ⟨by simp at hA; simp [spaceV, spaceE, hv]; omega, x1.down hb1⟩
    · go_wp2_with (first | (go_at_call 36; refine (pValid x1 _ _ _ p HP.out).mono ?_; rintro e w' ⟨rfl, x1, rfl⟩) | (go_at_call 89; refine (pspace50 x1 _ _ _ p HP.out h300.out).mono ?_; rintro e w' ⟨rfl, x1, rfl⟩))
      go_ret2; exact ⟨by simp at hA; simp [spaceV, spaceE, hv]; omega, x1.down hb1⟩

set_option maxRecDepth 100000 in
set_option maxHeartbeats 1000000 in
theorem pwrong {W : World} (x : Later W) (v0 v1 v2 vf : Value) (p : Prob) (f : List Int) (hp : IsProb W v0 v1 v2 p) (hf : IsInts W vf f) :
    Calls Try.prog 90 #[.agg #[v0, v1, v2], vf] x.w (Ends W (.int .i64 (wrongC p f))) := by
  go_enter Try.func90, Try.ntmps90
  go_upto_region 1 with (fail)
  obtain ⟨W1, x1, e1, hb1, s1, p0, p1, p2⟩ := enter3 x v0 v1 v2 26
  rw [e1]; clear e1
  have HP := Lib.hid (hp.below hb1)
  have HF := Lib.hid (hf.below hb1)
  obtain ⟨ap, cp, rfl, lp, _⟩ := hp.panes.opened
  obtain ⟨ao, co, rfl, lo, _⟩ := hp.opts.opened
  obtain ⟨ar, cr, rfl, lr, _⟩ := hp.rules.opened
  clear hp
  cases hv : validP p
  · go_wp2_with (go_at_call 36; refine (pValid x1 _ _ _ p HP.out).mono ?_; rintro e w' ⟨rfl, x1, rfl⟩)
    go_ret; exact ⟨ret_int (wrongC_70 hv).symm, x1.down hb1⟩
  · have hlen := Lib.hid (valid_len hv)
    cases hfl : fillB p f
    · go_wp2_with (first | (go_at_call 36; refine (pValid x1 _ _ _ p HP.out).mono ?_; rintro e w' ⟨rfl, x1, rfl⟩) | (go_at_call 135; refine (pfilling x1 _ _ _ _ p f HP.out HF.out hlen.out).mono ?_; rintro e w' ⟨rfl, x1, rfl⟩))
      go_ret; exact ⟨ret_int (wrongC_71 hv hfl).symm, x1.down hb1⟩
    · go_wp2_with (first | (go_at_call 36; refine (pValid x1 _ _ _ p HP.out).mono ?_; rintro e w' ⟨rfl, x1, rfl⟩) | (go_at_call 135; refine (pfilling x1 _ _ _ _ p f HP.out HF.out hlen.out).mono ?_; rintro e w' ⟨rfl, x1, rfl⟩))
      go_ret; exact ⟨ret_int (wrongC_0 hv hfl).symm, x1.down hb1⟩

set_option maxRecDepth 100000 in
set_option maxHeartbeats 1000000 in
theorem pSound {W : World} (x : Later W) (v0 v1 v2 vf : Value) (p : Prob) (f : List Int) (hp : IsProb W v0 v1 v2 p) (hf : IsInts W vf f) :
    Calls Try.prog 34 #[.agg #[v0, v1, v2], vf] x.w (Ends W (.tuple #[.bool (sndB p f), .int .i64 (wrongC p f)])) := by
  go_enter Try.func34, Try.ntmps34
  go_upto_region 1 with (fail)
  obtain ⟨W1, x1, e1, hb1, s1, p0, p1, p2⟩ := enter3 x v0 v1 v2 26
  rw [e1]; clear e1
  have HP := Lib.hid (hp.below hb1)
  have HF := Lib.hid (hf.below hb1)
  obtain ⟨ap, cp, rfl, lp, _⟩ := hp.panes.opened
  obtain ⟨ao, co, rfl, lo, _⟩ := hp.opts.opened
  obtain ⟨ar, cr, rfl, lr, _⟩ := hp.rules.opened
  clear hp
  by_cases h0 : wrongC p f = 0
  · have hw : (wrongC p f != 0) = false := by simp [h0]
    obtain ⟨hv, hfl⟩ := wrongC_iff.1 h0
    have hlen : Hid (f.length = p.opts.length) := Lib.hid (by rw [(fillB_iff.1 hfl).1, valid_len hv])
    have hfill := Lib.hid (fun i (hi : i < f.length) => fill_at hfl hi)
    have hr : Hid (sndB p f = soundB p f) := Lib.hid (by simp [sndB, h0])
    replace h0 := Lib.hid h0
    clear hv hfl
    go_wp2_with (first | (go_at_call 90; refine (pwrong x1 _ _ _ _ p f HP.out HF.out).mono ?_; rintro e w' ⟨rfl, x1, rfl⟩) | (go_at_call 91; refine (psound x1 _ _ _ _ p f HP.out HF.out hlen.out hfill.out).mono ?_; rintro e w' ⟨rfl, x1, rfl⟩))
    go_ret2; exact ⟨by rw [hr.out, h0.out]; rfl, x1.down hb1⟩
  · have hw : (wrongC p f != 0) = true := by simp [h0]
    have hr : Hid (sndB p f = false) := Lib.hid (by simp [sndB, h0])
    clear h0
    go_wp2_with (go_at_call 90; refine (pwrong x1 _ _ _ _ p f HP.out HF.out).mono ?_; rintro e w' ⟨rfl, x1, rfl⟩)
    go_ret2; exact ⟨by rw [hr.out]; rfl, x1.down hb1⟩

end Go.Proofs.Ytmpkbolabdmkkaa

/- CONTRACT of places' keeps. -/
namespace Go.Proofs.Ytmpkbolabdmkkaa
open Go.RowKit

set_option maxRecDepth 100000 in
set_option maxHeartbeats 1000000 in
theorem pkeeps {W : World} (x : Later W) (u2 u3 u6 vf : Value) (p : Prob) (r : Rl) (f : List Int) (hr : IsRl W u2 u3 u6 r) (hf : IsInts W vf f) (hfit : Fits p r f) :
    Calls Try.prog 97 #[.agg #[.int .i64 r.item, .int .i64 r.kind, u2, u3, .int .i64 r.lo, .int .i64 r.hi, u6], vf] x.w (Ends W (.bool (keepsB r f))) := by
  go_enter Try.func97, Try.ntmps97
  go_upto_region 1 with (fail)
  obtain ⟨W1, x1, e1, hb1, s1, p0, p1, p2, p3, p4, p5, p6⟩ := enter7 x (.int .i64 r.item) (.int .i64 r.kind) u2 u3 (.int .i64 r.lo) (.int .i64 r.hi) u6 87
  rw [e1]; clear e1
  obtain ⟨aq, cq, rfl, lq, hq⟩ := (hr.panes.below hb1).opened
  obtain ⟨ah, ch, rfl, lh, hh⟩ := (hr.hits.below hb1).opened
  obtain ⟨ak, ck, rfl, lk, hk⟩ := (hr.ok.below hb1).opened
  obtain ⟨af, cf, rfl, lf, hfs⟩ := (hf.below hb1).opened
  clear hr hf
  by_cases hkind : r.kind = 2
  · have hkp := Lib.hid (@keepsB_pair r f hkind)
    obtain ⟨h1, ⟨h2, h2'⟩, ⟨h3, h3'⟩, ⟨h4, h4'⟩, ⟨h5, h5'⟩⟩ := hfit.pair hkind
    have hk2 : (r.kind == 2) = true := by simp [hkind]
    have h1' : 1 < r.panes.length := by omega
    replace h1 := Lib.hid h1
    clear hkind hfit
    obtain ⟨bq, oq, rfl, hbq, c0⟩ := hq.out 0 (by omega)
    obtain ⟨_, _, he, _, c1⟩ := hq.out 1 (by omega)
    cases he
    simp only [Nat.add_zero] at c0
    obtain ⟨bf, of, rfl, hbf, d0⟩ := hfs.out _ h2'
    obtain ⟨_, _, he, _, d1⟩ := hfs.out _ h3'
    cases he
    rw [show nth f (nth r.panes 0).toNat = chosenAt r f 0 from rfl] at d0
    rw [show nth f (nth r.panes 1).toNat = chosenAt r f 1 from rfl] at d1
    obtain ⟨bk, ok, rfl, hbk, uk, ck0, hU⟩ := hk.out _ h4'
    obtain ⟨au, cu, rfl, lu, hu⟩ := hU.opened
    obtain ⟨bu, ou, rfl, hbu, cu0⟩ := hu.out _ h5'
    clear hU hu hq hfs hk
    go_wp2
    refine wp_region_later x1 (by kernel_rfl) (by kernel_rfl) ?_
    repeat (go_big_quiet_step (fail))
    refine wpQuiet_nil ?_
    rintro _ ⟨x1, rfl⟩
    go_wp2
    go_ret; exact ⟨ret_bool hkp.out.symm, x1.down hb1⟩
  · have hkp := Lib.hid (@keepsB_cnt r f hkind)
    obtain ⟨h1, h2⟩ := hfit.cnt hkind
    have hk2 : (r.kind == 2) = false := by simp [hkind]
    replace h1 := Lib.hid h1
    replace h2 := Lib.hid h2
    clear hkind hfit
    go_wp2
    go_loopw [5, 34] (fun n i wr => ∃ k : Nat, k ≤ r.panes.length ∧ i = .int .i64 k ∧ n = .int .i64 (hitsTo r f k) ∧ (∃ y : Later W1, wr = y.w)) (fun _ i _ => r.panes.length - (intOf i).toNat)
    case atStart => exact ⟨0, Nat.zero_le _, rfl, rfl, ⟨x1, rfl⟩⟩
    case round =>
      obtain ⟨k, hkl, rfl, rfl, ⟨x, rfl⟩⟩ := hrel
      by_cases hlt : k < r.panes.length
      · obtain ⟨⟨g1, g1'⟩, g2, g2'⟩ := h2.out k hlt
        have hkh : k < r.hits.length := by have := h1.out; omega
        have hbd := hitsTo_bd r f k
        have HS : Hid (hitsTo r f (k + 1) = if hitAt r f k = true then hitsTo r f k + 1 else hitsTo r f k) := Lib.hid rfl
        obtain ⟨bq, oq, rfl, hbq, c0⟩ := hq.out k hlt
        obtain ⟨bf, of, rfl, hbf, d0⟩ := hfs.out _ g1'
        rw [show nth f (nth r.panes k).toNat = chosenAt r f k from rfl] at d0
        obtain ⟨bh, oh, rfl, hbh, uh, ch0, hU⟩ := hh.out k hkh
        obtain ⟨au, cu, rfl, lu, hu⟩ := hU.opened
        obtain ⟨bu, ou, rfl, hbu, cu0⟩ := hu.out _ g2'
        rw [show nth (nth r.hits k) (chosenAt r f k).toNat = hitAt r f k from rfl] at cu0
        clear hU hu
        go_wp2
        refine wp_region_later x (by kernel_rfl) (by kernel_rfl) ?_
        repeat (go_big_quiet_step (fail))
        refine wpQuiet_nil ?_
        rintro _ ⟨x, rfl⟩
        cases hA : hitAt r f k <;> go_wp2
        · go_roundw
          case rel => exact ⟨k + 1, by omega, by go_num, by rw [HS.out, if_neg (by simp [hA])], ⟨x, rfl⟩⟩
          case measure => simp [intOf]; omega
        · go_roundw
          case rel => exact ⟨k + 1, by omega, by go_num, by rw [HS.out, if_pos hA], ⟨x, rfl⟩⟩
          case measure => simp [intOf]; omega
      · obtain rfl : k = r.panes.length := by omega
        go_wp2_with (go_at_call 94; refine (pwithin _ _ _ _).mono ?_; rintro e w' ⟨rfl, rfl⟩)
        go_ret; exact ⟨ret_bool hkp.out.symm, x.down hb1⟩

end Go.Proofs.Ytmpkbolabdmkkaa
