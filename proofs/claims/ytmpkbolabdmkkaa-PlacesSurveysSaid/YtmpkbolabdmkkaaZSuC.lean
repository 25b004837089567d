/- CONTRACTS of the survey's closure, and of IndexFunc with it. -/
import Derived.Test.YtmpkbolabdmkkaaZSuB
namespace Go.Proofs.Ytmpkbolabdmkkaa
open Go.RowKit

def ProbCap (w : World) (v2 : Value) : Prop := ∀ b o n c k u3 u6, v2 = .slice (some ⟨b, o, none⟩) n c → k < n → w.cell? ⟨b, o + k * 7 + 3, none⟩ = some u3 → w.cell? ⟨b, o + k * 7 + 6, none⟩ = some u6 → TabCap w u3 ∧ TabCap w u6
theorem ProbCap.below {w w' : World} {v2 : Value} {l : List Rl} (h : ProbCap w v2) (hr : IsRules w v2 l) (hb : Below w.heap.size w w') : ProbCap w' v2 := by
  obtain ⟨a, c0, hv, _, hx⟩ := hr.opened
  intro b o n c k u3 u6 he hk h3 h6
  rw [hv] at he
  injection he with e1 e2 e3
  subst e2
  obtain ⟨b', o', ha, hlt, v2', v3, v6, _, _, _, k3, _, _, k6, hR⟩ := hx.out k hk
  rw [e1] at ha
  cases ha
  have l3 := k3 ⟨w', hb⟩
  have l6 := k6 ⟨w', hb⟩
  change w'.cell? _ = _ at l3 l6
  rw [l3] at h3
  rw [l6] at h6
  cases h3; cases h6
  obtain ⟨t3, t6⟩ := h b o _ c k u3 u6 (by rw [hv, e1]; exact congrArg _ e3) hk (k3 (Later.now w)) (k6 (Later.now w))
  exact ⟨t3.below hR.hits hb, t6.below hR.ok hb⟩
def brI (p : Prob) (c : List Int) : Int := match brokenO p c with | some i => (i : Nat) | none => -1
theorem br_yes {p : Prob} {c : List Int} {k : Nat} (hk : k < p.rules.length) (h : brokenB (nth p.rules k) c = true) (hno : ∀ i, i < k → brokenB (nth p.rules i) c = false) : brI p c = k := by
  unfold brI brokenO; rw [find_range hk h hno]
theorem br_no {p : Prob} {c : List Int} (hno : ∀ i, i < p.rules.length → brokenB (nth p.rules i) c = false) : brI p c = -1 := by
  unfold brI brokenO; rw [find_rangeN hno]

set_option maxRecDepth 100000 in
set_option maxHeartbeats 1000000 in
theorem pnodeC {W : World} (x : Later W) (v0 v1 v2 u2 u3 u6 vf : Value) (p : Prob) (r : Rl) (f : List Int) (b2 b3 bs : Nat) (hp : IsProb W v0 v1 v2 p) (hr : IsRl W u2 u3 u6 r) (hf : IsInts W vf f) (hlen : p.opts.length = p.panes.length) (hro : ruleOK p r = true)
    (h300 : ∀ i, i < p.opts.length → 1 ≤ (nth p.opts i).length ∧ (nth p.opts i).length ≤ 300) (hc3 : TabCap W u3) (hc6 : TabCap W u6) (hfill : ∀ i, i < f.length → 0 ≤ nth f i ∧ nth f i < (nth p.opts i).length)
    (c2 : ∀ y : Later W, y.w.cell? ⟨b2, 0, none⟩ = some (.pointer (some ⟨bs, 0, none⟩))) (c3 : ∀ y : Later W, y.w.cell? ⟨b3, 0, none⟩ = some vf)
    (d0 : ∀ y : Later W, y.w.cell? ⟨bs, 0, none⟩ = some v0) (d1 : ∀ y : Later W, y.w.cell? ⟨bs, 1, none⟩ = some v1) (d2 : ∀ y : Later W, y.w.cell? ⟨bs, 2, none⟩ = some v2) :
    Calls Try.prog 149 #[.agg #[.int .i64 r.item, .int .i64 r.kind, u2, u3, .int .i64 r.lo, .int .i64 r.hi, u6], .pointer (some ⟨b2, 0, none⟩), .pointer (some ⟨b3, 0, none⟩)] x.w (Ends W (.bool (brokenB r f))) := by
  have hC := Lib.hid (fun (W1 : World) (hb : Below W.heap.size W W1) (y : Later W1) => pbroken y v0 v1 v2 u2 u3 u6 vf p r f (hp.below hb) (hr.below hb) (hf.below hb) hlen hro h300 (hc3.below hr.hits hb) (hc6.below hr.ok hb) hfill)
  clear hlen hro h300 hc3 hc6 hfill
  go_enter Try.func149, Try.ntmps149
  go_upto_region 1 with (fail)
  obtain ⟨W1, x1, e1, hb1, s1, p0, p1, p2, p3, p4, p5, p6⟩ := enter7 x (.int .i64 r.item) (.int .i64 r.kind) u2 u3 (.int .i64 r.lo) (.int .i64 r.hi) u6 87
  rw [e1]; clear e1
  obtain ⟨aq, cq, rfl, _, _⟩ := hr.panes.opened
  obtain ⟨ah, ch, rfl, _, _⟩ := hr.hits.opened
  obtain ⟨ak, ck, rfl, _, _⟩ := hr.ok.opened
  obtain ⟨af, cf, rfl, _, _⟩ := hf.opened
  obtain ⟨ap, cp, rfl, lp, _⟩ := hp.panes.opened
  obtain ⟨ao, co, rfl, lo, _⟩ := hp.opts.opened
  obtain ⟨ar, cr, rfl, lr, _⟩ := hp.rules.opened
  clear hr hf hp
  replace c2 := Later.cells hb1 c2
  replace c3 := Later.cells hb1 c3
  replace d0 := Later.cells hb1 d0
  replace d1 := Later.cells hb1 d1
  replace d2 := Later.cells hb1 d2
  go_wp2
  refine wp_region_later x1 (by kernel_rfl) (by kernel_rfl) ?_
  repeat (go_big_quiet_step ((go_at_call 150; exact hC.out W1 hb1 _)))
  refine wpQuiet_nil ?_
  rintro _ ⟨x1, rfl⟩
  go_wp2
  go_ret; exact ⟨rfl, x1.down hb1⟩

set_option maxRecDepth 100000 in
set_option maxHeartbeats 1000000 in
theorem pindexBr {W : World} (x : Later W) (v0 v1 v2 vf : Value) (p : Prob) (f : List Int) (b2 b3 bs : Nat) (hp : IsProb W v0 v1 v2 p) (hf : IsInts W vf f) (hval : validP p = true) (hcap : ProbCap W v2) (hfill : ∀ i, i < f.length → 0 ≤ nth f i ∧ nth f i < (nth p.opts i).length)
    (c2 : ∀ y : Later W, y.w.cell? ⟨b2, 0, none⟩ = some (.pointer (some ⟨bs, 0, none⟩))) (c3 : ∀ y : Later W, y.w.cell? ⟨b3, 0, none⟩ = some vf)
    (d0 : ∀ y : Later W, y.w.cell? ⟨bs, 0, none⟩ = some v0) (d1 : ∀ y : Later W, y.w.cell? ⟨bs, 1, none⟩ = some v1) (d2 : ∀ y : Later W, y.w.cell? ⟨bs, 2, none⟩ = some v2) :
    Calls Try.prog 144 #[v2, .func (.func 149) #[] #[.pointer (some ⟨b2, 0, none⟩), .pointer (some ⟨b3, 0, none⟩)]] x.w (Ends W (.int .i64 (brI p f))) := by
  obtain ⟨a, c, rfl, ll, hr⟩ := hp.rules.opened
  have hC := Lib.hid (fun (k : Nat) (hk : k < p.rules.length) (y : Later W) (u2 u3 u6 : Value) (hR : IsRl W u2 u3 u6 (nth p.rules k)) (h3 : TabCap W u3) (h6 : TabCap W u6) => pnodeC y v0 v1 _ u2 u3 u6 vf p (nth p.rules k) f b2 b3 bs hp hR hf (valid_len hval) (valid_rule hval hk) (fun i hi => ⟨(valid_opts hval hi).1, Nat.le_trans (valid_opts hval hi).2 (by decide)⟩) h3 h6 hfill c2 c3 d0 d1 d2)
  clear hp hf hval hfill c2 c3 d0 d1 d2
  have hno := Lib.hid (@br_no p f)
  go_enter Try.func144, Try.ntmps144
  go_wp2
  go_loopw [8] (fun i wr => ∃ k : Nat, k ≤ p.rules.length ∧ i = .int .i64 k ∧ (∃ y : Later W, wr = y.w) ∧ (∀ m, m < k → brokenB (nth p.rules m) f = false)) (fun i _ => p.rules.length - (intOf i).toNat)
  case atStart => exact ⟨0, Nat.zero_le _, rfl, ⟨x, rfl⟩, by omega⟩
  case round =>
    obtain ⟨k, hk, rfl, ⟨x, rfl⟩, hz⟩ := hrel
    replace hz := Lib.hid hz
    by_cases hlt : k < p.rules.length
    · have hyes := Lib.hid (fun h => @br_yes p f k hlt h hz.out)
      obtain ⟨bk, ok, rfl, hbk, u2, u3, u6, c0, c1, c2, c3, c4, c5, c6, hR⟩ := hr.out k hlt
      obtain ⟨t3, t6⟩ := hcap _ _ _ _ k u3 u6 rfl hlt (c3 (Later.now W)) (c6 (Later.now W))
      have HR := Lib.hid (fun y : Later W => hC.out k hlt y u2 u3 u6 hR t3 t6)
      clear t3 t6
      obtain ⟨aq, cq, rfl, _, _⟩ := hR.panes.opened
      obtain ⟨ah, ch, rfl, _, _⟩ := hR.hits.opened
      obtain ⟨ak, ck, rfl, _, _⟩ := hR.ok.opened
      clear hR
      cases hA : brokenB (nth p.rules k) f
      · rw [hA] at HR
        go_wp2_with (go_at_call 149; refine (HR.out x).mono ?_; rintro e w' ⟨rfl, x, rfl⟩)
        go_roundw
        case rel => exact ⟨k + 1, by omega, by go_num, ⟨x, rfl⟩, all_step hz.out hA⟩
        case measure => simp [intOf]; omega
      · rw [hA] at HR
        go_wp2_with (go_at_call 149; refine (HR.out x).mono ?_; rintro e w' ⟨rfl, x, rfl⟩)
        go_ret
        exact ⟨by rw [hyes.out hA]; rfl, x, rfl⟩
    · obtain rfl : k = p.rules.length := by omega
      go_wp2
      go_ret
      exact ⟨by rw [hno.out hz.out]; rfl, x, rfl⟩
end Go.Proofs.Ytmpkbolabdmkkaa
