/- CONTRACT of PlacesPrunes. -/
import Derived.Test.YtmpkbolabdmkkaaZLawC
import Derived.Test.YtmpkbolabdmkkaaZRnB
namespace Go.Proofs.Ytmpkbolabdmkkaa
open Go.RowKit

theorem pruned_same {p : Prob} {n1 n2 : Int} {t1 t2 : List (List Bool)} (h1 : (validP p = false ∧ n1 = 70 ∧ t1 = []) ∨ (validP p = true ∧ n1 = 0 ∧ Prunes p (fullTab p true) t1))
    (h2 : (validP p = false ∧ n2 = 70 ∧ t2 = []) ∨ (validP p = true ∧ n2 = 0 ∧ Prunes p (fullTab p true) t2)) : n1 = n2 ∧ t1 = t2 := by
  rcases h1 with ⟨a, rfl, rfl⟩ | ⟨a, rfl, b⟩ <;> rcases h2 with ⟨c, rfl, rfl⟩ | ⟨c, rfl, d⟩
  · exact ⟨rfl, rfl⟩
  · rw [a] at c; cases c
  · rw [a] at c; cases c
  · exact ⟨rfl, b.uniq d⟩

set_option maxRecDepth 100000 in
set_option maxHeartbeats 4000000 in
theorem lawPrunes {W : World} (x : Later W) (v0 v1 v2 : Value) (p : Prob) (hp : IsProb W v0 v1 v2 p) : Calls Try.prog 6 #[.agg #[v0, v1, v2]] x.w (Ends W (.bool true)) := by
  go_enter Try.func6, Try.ntmps6
  go_upto_region 1 with (fail)
  obtain ⟨W1, x1, e1, hb1, s1, p0, p1, p2⟩ := enter3 x v0 v1 v2 26
  rw [e1]; clear e1
  have HP := Lib.hid (hp.below hb1)
  obtain ⟨ap, cp, rfl, lp, _⟩ := hp.panes.opened
  obtain ⟨ao, co, rfl, lo, _⟩ := hp.opts.opened
  obtain ⟨ar, cr, rfl, lr, _⟩ := hp.rules.opened
  clear hp
  have hbase0 : Hid (∀ y : Later W1, Ends W (.bool true) (.returned (.bool true)) y.w) := Lib.hid (fun y => ⟨rfl, y.down hb1⟩)
  go_upto_region 2 with (go_at_call 14; refine (lawake x1).mono ?_; rintro e w' ⟨rfl, x1, rfl⟩)
  go_wp2_with (fail)
  refine (lshaped x1 _ _ _ p HP.out).mono ?_
  rintro e w' ⟨sh, rfl, x1, rfl⟩
  cases sh
  · go_wp2
    go_ret; exact hbase0.out _
  by_cases g40 : 40 < p.rules.length
  · go_wp2
    go_ret; exact hbase0.out _
  obtain ⟨_, _, hqq, _, hopts⟩ := HP.out.opts.opened
  cases hqq
  go_wp2
  go_loopw [4, 5] (fun nv iv wr => ∃ (n : Int) (k : Nat), k ≤ p.opts.length ∧ nv = .int .i64 n ∧ iv = .int .i64 k ∧ ∃ y : Later W1, wr = y.w) (fun _ iv _ => p.opts.length - (intOf iv).toNat)
  case atStart => exact ⟨0, 0, Nat.zero_le _, rfl, rfl, x1, rfl⟩
  case round =>
    clear x1
    obtain ⟨n, k, hk, rfl, rfl, ⟨x1, rfl⟩⟩ := hrel
    by_cases hlt : k < p.opts.length
    · obtain ⟨b1, o1, rfl, hb1', u1, t1, hO⟩ := hopts.out k hlt
      obtain ⟨a1, c1, rfl, _, _⟩ := hO.opened
      clear hO
      go_wp2
      go_roundw
      case rel => exact ⟨_, k + 1, by omega, rfl, by go_num, x1, rfl⟩
      case measure => simp [intOf]; omega
    · obtain rfl : k = p.opts.length := by omega
      by_cases g60 : 60 < n
      · go_wp2
        go_ret; exact hbase0.out _
      have hB := hb1
      clear hopts
      go_upto_region 12 with (go_at_call 43; refine (pPrune x1 _ _ _ p HP.out).mono ?_; rintro e w' ⟨u, n1, T1, rfl, ⟨y1, rfl, hI⟩, hcase1⟩; have I1 := Lib.hid hI; obtain ⟨a1, c1, rfl, hx1, hx2⟩ := hI; clear hx1 hx2)
      replace HP := Lib.hid (HP.out.below y1.h)
      replace p0 := Later.cells y1.h p0
      replace p1 := Later.cells y1.h p1
      replace p2 := Later.cells y1.h p2
      replace s1 := Later.sizes y1.h s1
      replace hB := below_then hB y1
      show Code.wp _ _ _ _ (Later.now y1.w).w
      generalize Later.now y1.w = xb
      go_upto_region 13 with (go_at_call 44; refine (rPrune xb _ _ _ p HP.out).mono ?_; rintro e w' ⟨u, n2, T2, rfl, ⟨y2, rfl, hI⟩, hcase2⟩; have I2 := Lib.hid hI; obtain ⟨a2, c2, rfl, hx1, hx2⟩ := hI; clear hx1 hx2)
      replace I1 := Lib.hid (I1.out.below y2.h)
      replace hB := below_then hB y2
      obtain ⟨rfl, rfl⟩ := pruned_same hcase1 hcase2
      clear hcase1 hcase2
      have hbase : Hid (∀ y : Later y2.w, Ends W (.bool true) (.returned (.bool true)) y.w) := Lib.hid (fun y => ⟨rfl, ⟨y.w, below_then hB y⟩, rfl⟩)
      have hSm := Lib.hid (fun (y : Later y2.w) => rSameTables y _ _ _ _ I1.out I2.out)
      rw [decide_eq_true rfl] at hSm
      show Code.wp _ _ _ _ (Later.now y2.w).w
      generalize Later.now y2.w = q
      go_wp2_with (go_at_call 45; refine (hSm.out q).mono ?_; rintro e w' ⟨rfl, q, rfl⟩)
      go_ret; exact hbase.out _
end Go.Proofs.Ytmpkbolabdmkkaa
