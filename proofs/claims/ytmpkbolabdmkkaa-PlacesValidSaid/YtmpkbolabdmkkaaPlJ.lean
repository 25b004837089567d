/- CONTRACTS of places' agrees. -/
import Derived.Test.YtmpkbolabdmkkaaPlI
namespace Go.Proofs.Ytmpkbolabdmkkaa
open Go.RowKit

/-- parameters laid in memory of their own: three cells, then one -/
theorem enter31 {W : World} (x : Later W) (u0 u1 u2 v0 : Value) (S T : TypeId) : ∃ (W1 : World) (x1 : Later W1), (x.w.alloc (.cells #[u0, u1, u2] S)).alloc (.cells #[v0] T) = x1.w ∧ Below W.heap.size W W1 ∧
    ((∀ y : Later W1, x.w.heap.size < y.w.heap.size) ∧ (∀ y : Later W1, x.w.heap.size + 1 < y.w.heap.size)) ∧
    ((∀ y : Later W1, y.w.cell? ⟨x.w.heap.size, 0, none⟩ = some u0) ∧ (∀ y : Later W1, y.w.cell? ⟨x.w.heap.size, 1, none⟩ = some u1) ∧ (∀ y : Later W1, y.w.cell? ⟨x.w.heap.size, 2, none⟩ = some u2)) ∧
    (∀ y : Later W1, y.w.cell? ⟨x.w.heap.size + 1, 0, none⟩ = some v0) := by
  obtain ⟨W2, x2, e2, hb2, s2, p0, p1, p2⟩ := enter3 x u0 u1 u2 S
  have hs : x.w.heap.size + 1 < ((x.w.alloc (.cells #[u0, u1, u2] S)).alloc (.cells #[v0] T)).heap.size := by simp
  have hb : Below W.heap.size W ((x.w.alloc (.cells #[u0, u1, u2] S)).alloc (.cells #[v0] T)) := (x.h.alloc x.h.size _).alloc (by simp; exact Nat.le_succ_of_le x.h.size) _
  have h3 : Below W2.heap.size W2 ((x.w.alloc (.cells #[u0, u1, u2] S)).alloc (.cells #[v0] T)) := by
    rw [e2]; exact x2.h.alloc x2.h.size _
  refine ⟨_, Later.now _, rfl, hb, ⟨Later.sizes h3 s2, Later.size hs⟩, ⟨Later.cells h3 p0, Later.cells h3 p1, Later.cells h3 p2⟩, Later.cell hs ((World.cell?_alloc_at _ T _ 0 (by simp)).trans rfl)⟩

set_option maxRecDepth 100000 in
set_option maxHeartbeats 1000000 in
theorem pnotKeeps {W : World} (x : Later W) (u2 u3 u6 vf : Value) (p : Prob) (r : Rl) (f : List Int) (b : Nat) (hr : IsRl W u2 u3 u6 r) (hf : IsInts W vf f) (hfit : Fits p r f) (hb : ∀ y : Later W, b < y.w.heap.size) (hc : ∀ y : Later W, y.w.cell? ⟨b, 0, none⟩ = some vf) :
    Calls Try.prog 142 #[.agg #[.int .i64 r.item, .int .i64 r.kind, u2, u3, .int .i64 r.lo, .int .i64 r.hi, u6], .pointer (some ⟨b, 0, none⟩)] x.w (Ends W (.bool (!keepsB r f))) := by
  replace hfit := Lib.hid hfit
  go_enter Try.func142, Try.ntmps142
  go_upto_region 1 with (fail)
  obtain ⟨W1, x1, e1, hb1, s1, p0, p1, p2, p3, p4, p5, p6⟩ := enter7 x (.int .i64 r.item) (.int .i64 r.kind) u2 u3 (.int .i64 r.lo) (.int .i64 r.hi) u6 87
  rw [e1]; clear e1
  have HR := Lib.hid (hr.below hb1)
  have HF := Lib.hid (hf.below hb1)
  obtain ⟨aq, cq, rfl, _, _⟩ := hr.panes.opened
  obtain ⟨ah, ch, rfl, _, _⟩ := hr.hits.opened
  obtain ⟨ak, ck, rfl, _, _⟩ := hr.ok.opened
  obtain ⟨af, cf, rfl, _, _⟩ := hf.opened
  clear hr hf
  replace hb := Later.sizes hb1 hb
  replace hc := Later.cells hb1 hc
  go_wp2_with (go_at_call 97; refine (pkeeps x1 _ _ _ _ p r f HR.out HF.out hfit.out).mono ?_; rintro e w' ⟨rfl, x1, rfl⟩)
  go_ret; exact ⟨rfl, x1.down hb1⟩

/-- some rule is not kept -/
def badB (p : Prob) (f : List Int) : Bool := decide (∃ i, i < p.rules.length ∧ keepsB (nth p.rules i) f = false)
theorem badB_yes {p : Prob} {f : List Int} {i : Nat} (hi : i < p.rules.length) (h : keepsB (nth p.rules i) f = false) : badB p f = true := by unfold badB; rw [decide_eq_true_iff]; exact ⟨i, hi, h⟩
theorem badB_no {p : Prob} {f : List Int} (h : ∀ i, i < p.rules.length → keepsB (nth p.rules i) f = true) : badB p f = false := by
  unfold badB; rw [decide_eq_false_iff_not]; rintro ⟨i, hi, h'⟩; rw [h i hi] at h'; cases h'
theorem agreesB_eq (p : Prob) (f : List Int) : agreesB p f = (soundB p f && !badB p f) := by
  cases h : badB p f
  · rw [agreesB_rest, Bool.not_false, Bool.and_true]
    intro i hi
    cases hk : keepsB (nth p.rules i) f
    · rw [badB_yes hi hk] at h; cases h
    · rfl
  · unfold badB at h; rw [decide_eq_true_iff] at h
    obtain ⟨i, hi, hk⟩ := h
    rw [agreesB_bad hi hk]; simp

set_option maxRecDepth 100000 in
set_option maxHeartbeats 1000000 in
theorem pindexBad {W : World} (x : Later W) (v vf : Value) (p : Prob) (f : List Int) (b : Nat) (hv : IsRules W v p.rules) (hf : IsInts W vf f) (hfit : ∀ i, i < p.rules.length → Fits p (nth p.rules i) f) (hb : ∀ y : Later W, b < y.w.heap.size) (hc : ∀ y : Later W, y.w.cell? ⟨b, 0, none⟩ = some vf) :
    Calls Try.prog 144 #[v, .func (.func 142) #[] #[.pointer (some ⟨b, 0, none⟩)]] x.w fun e w' => ∃ j : Int, e = .returned (.int .i64 j) ∧ decide (0 ≤ j) = badB p f ∧ ∃ y : Later W, w' = y.w := by
  obtain ⟨a, c, rfl, ll, hr⟩ := hv.opened
  clear hv
  replace hfit := Lib.hid hfit
  have HF := Lib.hid hf
  clear hf
  have hno := Lib.hid (@badB_no p f)
  go_enter Try.func144, Try.ntmps144
  go_wp2
  go_loopw [8] (fun i wr => ∃ k : Nat, k ≤ p.rules.length ∧ i = .int .i64 k ∧ (∃ y : Later W, wr = y.w) ∧ (∀ i, i < k → keepsB (nth p.rules i) f = true)) (fun i _ => p.rules.length - (intOf i).toNat)
  case atStart => exact ⟨0, Nat.zero_le _, rfl, ⟨x, rfl⟩, by omega⟩
  case round =>
    obtain ⟨k, hk, rfl, ⟨x, rfl⟩, hz⟩ := hrel
    replace hz := Lib.hid hz
    by_cases hlt : k < p.rules.length
    · have hyes := Lib.hid (@badB_yes p f k hlt)
      obtain ⟨bk, ok, rfl, hbk, u2, u3, u6, c0, c1, c2, c3, c4, c5, c6, hR⟩ := hr.out k hlt
      have HR := Lib.hid hR
      obtain ⟨aq, cq, rfl, _, _⟩ := hR.panes.opened
      obtain ⟨ah, ch, rfl, _, _⟩ := hR.hits.opened
      obtain ⟨ak, ck, rfl, _, _⟩ := hR.ok.opened
      clear hR
      cases hA : keepsB (nth p.rules k) f
      · go_wp2_with (go_at_call 142; refine (pnotKeeps x _ _ _ _ p (nth p.rules k) f b HR.out HF.out (hfit.out k hlt) hb hc).mono ?_; rintro e w' ⟨rfl, x, rfl⟩)
        go_ret
        exact ⟨_, rfl, by rw [hyes.out hA]; simp, x, rfl⟩
      · go_wp2_with (go_at_call 142; refine (pnotKeeps x _ _ _ _ p (nth p.rules k) f b HR.out HF.out (hfit.out k hlt) hb hc).mono ?_; rintro e w' ⟨rfl, x, rfl⟩)
        go_roundw
        case rel => exact ⟨k + 1, by omega, by go_num, ⟨x, rfl⟩, all_step hz.out hA⟩
        case measure => simp [intOf]; omega
    · obtain rfl : k = p.rules.length := by omega
      go_wp2
      go_ret
      exact ⟨_, rfl, by rw [hno.out hz.out]; rfl, x, rfl⟩

set_option maxHeartbeats 1000000 in
theorem phasBad {W : World} (x : Later W) (v vf : Value) (p : Prob) (f : List Int) (b : Nat) (hv : IsRules W v p.rules) (hf : IsInts W vf f) (hfit : ∀ i, i < p.rules.length → Fits p (nth p.rules i) f) (hb : ∀ y : Later W, b < y.w.heap.size) (hc : ∀ y : Later W, y.w.cell? ⟨b, 0, none⟩ = some vf) :
    Calls Try.prog 104 #[v, .func (.func 142) #[] #[.pointer (some ⟨b, 0, none⟩)]] x.w (Ends W (.bool (badB p f))) := by
  go_enter Try.func104, Try.ntmps104
  go_wp2_with (go_at_call 144; refine (pindexBad x _ _ p f b hv hf hfit hb hc).mono ?_; rintro e w' ⟨j, rfl, hj, x, rfl⟩; replace hj := Lib.hid hj)
  go_ret; exact ⟨ret_bool hj.out, x, rfl⟩

set_option maxRecDepth 100000 in
set_option maxHeartbeats 1000000 in
theorem pagrees {W : World} (x : Later W) (v0 v1 v2 vf : Value) (p : Prob) (f : List Int) (hp : IsProb W v0 v1 v2 p) (hf : IsInts W vf f) (hv : validP p = true) (hfl : fillB p f = true) :
    Calls Try.prog 101 #[.agg #[v0, v1, v2], vf] x.w (Ends W (.bool (agreesB p f))) := by
  have hlen : Hid (f.length = p.opts.length) := Lib.hid (by rw [(fillB_iff.1 hfl).1, valid_len hv])
  have hfill := Lib.hid (fun i (hi : i < f.length) => fill_at hfl hi)
  have hfit := Lib.hid (fun i (hi : i < p.rules.length) => fits_of hv hfl hi)
  have heq := Lib.hid (agreesB_eq p f)
  clear hv hfl
  obtain ⟨af, cf, rfl, lf, _⟩ := hf.opened
  go_enter Try.func101, Try.ntmps101
  go_upto_region 1 with (fail)
  obtain ⟨W1, x1, e1, hb1, ⟨s1, s2⟩, ⟨p0, p1, p2⟩, q0⟩ := enter31 x v0 v1 v2 (.slice af f.length cf) 26 22
  rw [e1]; clear e1
  have HP := Lib.hid (hp.below hb1)
  have HF := Lib.hid (hf.below hb1)
  obtain ⟨ap, cp, rfl, lp, _⟩ := hp.panes.opened
  obtain ⟨ao, co, rfl, lo, _⟩ := hp.opts.opened
  obtain ⟨ar, cr, rfl, lr, _⟩ := hp.rules.opened
  clear hp hf
  cases hA : soundB p f
  · go_wp2_with (go_at_call 91; refine (psound x1 _ _ _ _ p f HP.out HF.out hlen.out hfill.out).mono ?_; rintro e w' ⟨rfl, x1, rfl⟩)
    go_ret; exact ⟨ret_bool (by rw [heq.out, hA]; rfl), x1.down hb1⟩
  · go_wp2_with (first | (go_at_call 91; refine (psound x1 _ _ _ _ p f HP.out HF.out hlen.out hfill.out).mono ?_; rintro e w' ⟨rfl, x1, rfl⟩) | (go_at_call 104; refine (phasBad x1 _ _ p f _ HP.out.rules HF.out hfit.out s2 q0).mono ?_; rintro e w' ⟨rfl, x1, rfl⟩))
    go_ret; exact ⟨ret_bool (by rw [heq.out, hA]; rfl), x1.down hb1⟩
end Go.Proofs.Ytmpkbolabdmkkaa
