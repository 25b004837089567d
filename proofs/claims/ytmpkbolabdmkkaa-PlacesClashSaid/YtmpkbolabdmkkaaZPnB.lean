/- CONTRACTS of Prune's closure and of ContainsFunc with it. -/
import Derived.Test.YtmpkbolabdmkkaaZPnA
import Derived.Test.YtmpkbolabdmkkaaZh
namespace Go.Proofs.Ytmpkbolabdmkkaa
open Go.RowKit

set_option maxRecDepth 100000 in
set_option maxHeartbeats 1000000 in
theorem pstruckC {W : World} (x : Later W) (u2 u3 u6 vl : Value) (p : Prob) (r : Rl) (t : List (List Bool)) (pane o b4 b6 b7 : Nat) (hr : IsRl W u2 u3 u6 r) (ht : IsBoolss W vl t) (hs : Shp p t) (hv : p.opts.length = p.panes.length) (hro : ruleOK p r = true)
    (hp : pane < p.opts.length) (ho : o < (nth p.opts pane).length) (c4 : ∀ y : Later W, y.w.cell? ⟨b4, 0, none⟩ = some vl) (c6 : ∀ y : Later W, y.w.cell? ⟨b6, 0, none⟩ = some (.int .i64 pane)) (c7 : ∀ y : Later W, y.w.cell? ⟨b7, 0, none⟩ = some (.int .i64 o)) :
    Calls Try.prog 105 #[.agg #[.int .i64 r.item, .int .i64 r.kind, u2, u3, .int .i64 r.lo, .int .i64 r.hi, u6], .pointer (some ⟨b4, 0, none⟩), .pointer (some ⟨b6, 0, none⟩), .pointer (some ⟨b7, 0, none⟩)] x.w (Ends W (.bool (struckB r t pane o))) := by
  have hC := Lib.hid (fun (W1 : World) (x1 : Later W1) (u2 u3 u6 vl : Value) (hr : IsRl W1 u2 u3 u6 r) (ht : IsBoolss W1 vl t) => pstruck x1 u2 u3 u6 vl p r t pane o hr ht hs hv hro hp ho)
  clear hs hv hro hp ho
  go_enter Try.func105, Try.ntmps105
  go_upto_region 1 with (fail)
  obtain ⟨W1, x1, e1, hb1, s1, p0, p1, p2, p3, p4, p5, p6⟩ := enter7 x (.int .i64 r.item) (.int .i64 r.kind) u2 u3 (.int .i64 r.lo) (.int .i64 r.hi) u6 87
  rw [e1]; clear e1
  have HR := Lib.hid (hr.below hb1)
  have HT := Lib.hid (ht.below hb1)
  obtain ⟨aq, cq, rfl, _, _⟩ := hr.panes.opened
  obtain ⟨ah, ch, rfl, _, _⟩ := hr.hits.opened
  obtain ⟨ak, ck, rfl, _, _⟩ := hr.ok.opened
  obtain ⟨at_, ct, rfl, _, _⟩ := ht.opened
  clear hr ht
  replace c4 := Later.cells hb1 c4
  replace c6 := Later.cells hb1 c6
  replace c7 := Later.cells hb1 c7
  go_wp2_with (go_at_call 106; refine (hC.out W1 x1 _ _ _ _ HR.out HT.out).mono ?_; rintro e w' ⟨rfl, x1, rfl⟩)
  go_ret; exact ⟨rfl, x1.down hb1⟩

set_option maxRecDepth 100000 in
set_option maxHeartbeats 1000000 in
theorem pindexStr {W : World} (x : Later W) (v vl : Value) (p : Prob) (t : List (List Bool)) (pane o b4 b6 b7 : Nat) (hv : IsRules W v p.rules) (ht : IsBoolss W vl t) (hs : Shp p t) (hval : validP p = true)
    (hp : pane < p.opts.length) (ho : o < (nth p.opts pane).length) (c4 : ∀ y : Later W, y.w.cell? ⟨b4, 0, none⟩ = some vl) (c6 : ∀ y : Later W, y.w.cell? ⟨b6, 0, none⟩ = some (.int .i64 pane)) (c7 : ∀ y : Later W, y.w.cell? ⟨b7, 0, none⟩ = some (.int .i64 o)) :
    Calls Try.prog 144 #[v, .func (.func 105) #[] #[.pointer (some ⟨b4, 0, none⟩), .pointer (some ⟨b6, 0, none⟩), .pointer (some ⟨b7, 0, none⟩)]] x.w fun e w' => ∃ j : Int, e = .returned (.int .i64 j) ∧ decide (0 ≤ j) = anyB p t pane o ∧ ∃ y : Later W, w' = y.w := by
  obtain ⟨a, c, rfl, ll, hr⟩ := hv.opened
  clear hv
  have hC := Lib.hid (fun (k : Nat) (hk : k < p.rules.length) (y : Later W) (u2 u3 u6 : Value) (hR : IsRl W u2 u3 u6 (nth p.rules k)) => pstruckC y u2 u3 u6 vl p (nth p.rules k) t pane o b4 b6 b7 hR ht hs (valid_len hval) (valid_rule hval hk) hp ho c4 c6 c7)
  clear ht hs hval hp ho c4 c6 c7
  have hno := Lib.hid (@anyB_no p t pane o)
  go_enter Try.func144, Try.ntmps144
  go_wp2
  go_loopw [8] (fun i wr => ∃ k : Nat, k ≤ p.rules.length ∧ i = .int .i64 k ∧ (∃ y : Later W, wr = y.w) ∧ (∀ m, m < k → struckB (nth p.rules m) t pane o = false)) (fun i _ => p.rules.length - (intOf i).toNat)
  case atStart => exact ⟨0, Nat.zero_le _, rfl, ⟨x, rfl⟩, by omega⟩
  case round =>
    obtain ⟨k, hk, rfl, ⟨x, rfl⟩, hz⟩ := hrel
    replace hz := Lib.hid hz
    by_cases hlt : k < p.rules.length
    · have hyes := Lib.hid (@anyB_yes p t pane o k hlt)
      obtain ⟨bk, ok, rfl, hbk, u2, u3, u6, c0, c1, c2, c3, c4, c5, c6, hR⟩ := hr.out k hlt
      have HR := Lib.hid (fun y : Later W => hC.out k hlt y u2 u3 u6 hR)
      obtain ⟨aq, cq, rfl, _, _⟩ := hR.panes.opened
      obtain ⟨ah, ch, rfl, _, _⟩ := hR.hits.opened
      obtain ⟨ak, ck, rfl, _, _⟩ := hR.ok.opened
      clear hR
      cases hA : struckB (nth p.rules k) t pane o
      · rw [hA] at HR
        go_wp2_with (go_at_call 105; refine (HR.out x).mono ?_; rintro e w' ⟨rfl, x, rfl⟩)
        go_roundw
        case rel => exact ⟨k + 1, by omega, by go_num, ⟨x, rfl⟩, all_step hz.out hA⟩
        case measure => simp [intOf]; omega
      · rw [hA] at HR
        go_wp2_with (go_at_call 105; refine (HR.out x).mono ?_; rintro e w' ⟨rfl, x, rfl⟩)
        go_ret
        exact ⟨_, rfl, by rw [hyes.out hA]; simp, x, rfl⟩
    · obtain rfl : k = p.rules.length := by omega
      go_wp2
      go_ret
      exact ⟨_, rfl, by rw [hno.out hz.out]; rfl, x, rfl⟩

set_option maxHeartbeats 1000000 in
theorem phasStr {W : World} (x : Later W) (v vl : Value) (p : Prob) (t : List (List Bool)) (pane o b4 b6 b7 : Nat) (hv : IsRules W v p.rules) (ht : IsBoolss W vl t) (hs : Shp p t) (hval : validP p = true)
    (hp : pane < p.opts.length) (ho : o < (nth p.opts pane).length) (c4 : ∀ y : Later W, y.w.cell? ⟨b4, 0, none⟩ = some vl) (c6 : ∀ y : Later W, y.w.cell? ⟨b6, 0, none⟩ = some (.int .i64 pane)) (c7 : ∀ y : Later W, y.w.cell? ⟨b7, 0, none⟩ = some (.int .i64 o)) :
    Calls Try.prog 104 #[v, .func (.func 105) #[] #[.pointer (some ⟨b4, 0, none⟩), .pointer (some ⟨b6, 0, none⟩), .pointer (some ⟨b7, 0, none⟩)]] x.w (Ends W (.bool (anyB p t pane o))) := by
  go_enter Try.func104, Try.ntmps104
  go_wp2_with (go_at_call 144; refine (pindexStr x _ _ p t pane o b4 b6 b7 hv ht hs hval hp ho c4 c6 c7).mono ?_; rintro e w' ⟨j, rfl, hj, x, rfl⟩; replace hj := Lib.hid hj)
  go_ret; exact ⟨ret_bool hj.out, x, rfl⟩
end Go.Proofs.Ytmpkbolabdmkkaa
