/- CONTRACTS of places' agrees. -/
import Derived.Test.YtmpkbolabdmkkaaZg
import Derived.Test.YtmpkbolabdmkkaaZc
import Derived.Test.YtmpkbolabdmkkaaZa
import Derived.Shelf.SlicesE.Compact
import Derived.Ground.SlgnProg
namespace Go.Proofs.Ytmpkbolabdmkkaa
open Go.RowKit

/-- parameters laid in memory of their own: three cells, then one -/
theorem enter31 {W : World} (x : Later W) (u0 u1 u2 v0 : Value) (S T : TypeId) : ∃ (W1 : World) (x1 : Later W1), (x.w.alloc (.cells #[u0, u1, u2] S)).alloc (.cells #[v0] T) = x1.w ∧ Below W.heap.size W W1 ∧
    ((∀ y : Later W1, x.w.heap.size < y.w.heap.size) ∧ (∀ y : Later W1, x.w.heap.size + 1 < y.w.heap.size)) ∧
    ((∀ y : Later W1, y.w.cell? ⟨x.w.heap.size, 0, none⟩ = some u0) ∧ (∀ y : Later W1, y.w.cell? ⟨x.w.heap.size, 1, none⟩ = some u1) ∧ (∀ y : Later W1, y.w.cell? ⟨x.w.heap.size, 2, none⟩ = some u2)) ∧
    (∀ y : Later W1, y.w.cell? ⟨x.w.heap.size + 1, 0, none⟩ = some v0) := by
  obtain ⟨W2, x2, e2, hb2, s2, p0, p1, p2⟩ := enter3 x u0 u1 u2 S
  have hs : x.w.heap.size + 1 < ((x.w.alloc (.cells #[u0, u1, u2] S)).alloc (.cells #[v0] T)).heap.size := by simp
  have hb : Below W.heap.size W ((x.w.alloc (.cells #[u0, u1, u2] S)).alloc (.cells #[v0] T)) := (x.h.alloc x.h.size _).alloc (by simp; exact Nat.le_succ_of_le x.h.size) _
  have h3 : Below W2.heap.size W2 ((x.w.alloc (.cells #[u0, u1, u2] S)).alloc (.cells #[v0] T)) := by
    rw [e2]; exact x2.h.alloc x2.h.size _
  refine ⟨_, Later.now _, rfl, hb, ⟨Later.sizes h3 s2, Later.size hs⟩, ⟨Later.cells h3 p0, Later.cells h3 p1, Later.cells h3 p2⟩, Later.cell hs ((World.cell?_alloc_at _ T _ 0 (by simp)).trans rfl)⟩

set_option maxRecDepth 100000 in
set_option maxHeartbeats 1000000 in
theorem pnotKeeps {W : World} (x : Later W) (u2 u3 u6 vf : Value) (p : Prob) (r : Rl) (f : List Int) (b : Nat) (hr : IsRl W u2 u3 u6 r) (hf : IsInts W vf f) (hfit : Fits p r f) (hb : ∀ y : Later W, b < y.w.heap.size) (hc : ∀ y : Later W, y.w.cell? ⟨b, 0, none⟩ = some vf) :
    Calls Try.prog 142 #[.agg #[.int .i64 r.item, .int .i64 r.kind, u2, u3, .int .i64 r.lo, .int .i64 r.hi, u6], .pointer (some ⟨b, 0, none⟩)] x.w (Ends W (.bool (!keepsB r f))) := by
  replace hfit := Lib.hid hfit
  go_enter Try.func142, Try.ntmps142
  go_upto_region 1 with (fail)
  obtain ⟨W1, x1, e1, hb1, s1, p0, p1, p2, p3, p4, p5, p6⟩ := enter7 x (.int .i64 r.item) (.int .i64 r.kind) u2 u3 (.int .i64 r.lo) (.int .i64 r.hi) u6 87
  rw [e1]; clear e1
  have HR := Lib.hid (hr.below hb1)
  have HF := Lib.hid (hf.below hb1)
  obtain ⟨aq, cq, rfl, _, _⟩ := hr.panes.opened
  obtain ⟨ah, ch, rfl, _, _⟩ := hr.hits.opened
  obtain ⟨ak, ck, rfl, _, _⟩ := hr.ok.opened
  obtain ⟨af, cf, rfl, _, _⟩ := hf.opened
  clear hr hf
  replace hb := Later.sizes hb1 hb
  replace hc := Later.cells hb1 hc
  go_wp2_with (go_at_call 97; refine (pkeeps x1 _ _ _ _ p r f HR.out HF.out hfit.out).mono ?_; rintro e w' ⟨rfl, x1, rfl⟩)
  go_ret; exact ⟨rfl, x1.down hb1⟩

/-- some rule is not kept -/
def badB (p : Prob) (f : List Int) : Bool := decide (∃ i, i < p.rules.length ∧ keepsB (nth p.rules i) f = false)
theorem badB_yes {p : Prob} {f : List Int} {i : Nat} (hi : i < p.rules.length) (h : keepsB (nth p.rules i) f = false) : badB p f = true := by unfold badB; rw [decide_eq_true_iff]; exact ⟨i, hi, h⟩
theorem badB_no {p : Prob} {f : List Int} (h : ∀ i, i < p.rules.length → keepsB (nth p.rules i) f = true) : badB p f = false := by
  unfold badB; rw [decide_eq_false_iff_not]; rintro ⟨i, hi, h'⟩; rw [h i hi] at h'; cases h'
theorem agreesB_eq (p : Prob) (f : List Int) : agreesB p f = (soundB p f && !badB p f) := by
  cases h : badB p f
  · rw [agreesB_rest, Bool.not_false, Bool.and_true]
    intro i hi
    cases hk : keepsB (nth p.rules i) f
    · rw [badB_yes hi hk] at h; cases h
    · rfl
  · unfold badB at h; rw [decide_eq_true_iff] at h
    obtain ⟨i, hi, hk⟩ := h
    rw [agreesB_bad hi hk]; simp

set_option maxRecDepth 100000 in
set_option maxHeartbeats 1000000 in
theorem pindexBad {W : World} (x : Later W) (v vf : Value) (p : Prob) (f : List Int) (b : Nat) (hv : IsRules W v p.rules) (hf : IsInts W vf f) (hfit : ∀ i, i < p.rules.length → Fits p (nth p.rules i) f) (hb : ∀ y : Later W, b < y.w.heap.size) (hc : ∀ y : Later W, y.w.cell? ⟨b, 0, none⟩ = some vf) :
    Calls Try.prog 144 #[v, .func (.func 142) #[] #[.pointer (some ⟨b, 0, none⟩)]] x.w fun e w' => ∃ j : Int, e = .returned (.int .i64 j) ∧ decide (0 ≤ j) = badB p f ∧ ∃ y : Later W, w' = y.w := by
  obtain ⟨a, c, rfl, ll, hr⟩ := hv.opened
  clear hv
  replace hfit := Lib.hid hfit
  have HF := Lib.hid hf
  clear hf
  have hno := Lib.hid (@badB_no p f)
  go_enter Try.func144, Try.ntmps144
  go_wp2
  go_loopw [8] (fun i wr => ∃ k : Nat, k ≤ p.rules.length ∧ i = .int .i64 k ∧ (∃ y : Later W, wr = y.w) ∧ (∀ i, i < k → keepsB (nth p.rules i) f = true)) (fun i _ => p.rules.length - (intOf i).toNat)
  case atStart => exact ⟨0, Nat.zero_le _, rfl, ⟨x, rfl⟩, by omega⟩
  case round =>
    obtain ⟨k, hk, rfl, ⟨x, rfl⟩, hz⟩ := hrel
    replace hz := Lib.hid hz
    by_cases hlt : k < p.rules.length
    · have hyes := Lib.hid (@badB_yes p f k hlt)
      obtain ⟨bk, ok, rfl, hbk, u2, u3, u6, c0, c1, c2, c3, c4, c5, c6, hR⟩ := hr.out k hlt
      have HR := Lib.hid hR
      obtain ⟨aq, cq, rfl, _, _⟩ := hR.panes.opened
      obtain ⟨ah, ch, rfl, _, _⟩ := hR.hits.opened
      obtain ⟨ak, ck, rfl, _, _⟩ := hR.ok.opened
      clear hR
      cases hA : keepsB (nth p.rules k) f
      · go_wp2_with (go_at_call 142; refine (pnotKeeps x _ _ _ _ p (nth p.rules k) f b HR.out HF.out (hfit.out k hlt) hb hc).mono ?_; rintro e w' ⟨rfl, x, rfl⟩)
        go_ret
        exact ⟨_, rfl, by rw [hyes.out hA]; simp, x, rfl⟩
      · go_wp2_with (go_at_call 142; refine (pnotKeeps x _ _ _ _ p (nth p.rules k) f b HR.out HF.out (hfit.out k hlt) hb hc).mono ?_; rintro e w' ⟨rfl, x, rfl⟩)
        go_roundw
        case rel => exact ⟨k + 1, by omega, by go_num, ⟨x, rfl⟩, all_step hz.out hA⟩
        case measure => simp [intOf]; omega
    · obtain rfl : k = p.rules.length := by omega
      go_wp2
      go_ret
      exact ⟨_, rfl, by rw [hno.out hz.out]; rfl, x, rfl⟩

set_option maxHeartbeats 1000000 in
theorem phasBad {W : World} (x : Later W) (v vf : Value) (p : Prob) (f : List Int) (b : Nat) (hv : IsRules W v p.rules) (hf : IsInts W vf f) (hfit : ∀ i, i < p.rules.length → Fits p (nth p.rules i) f) (hb : ∀ y : Later W, b < y.w.heap.size) (hc : ∀ y : Later W, y.w.cell? ⟨b, 0, none⟩ = some vf) :
    Calls Try.prog 104 #[v, .func (.func 142) #[] #[.pointer (some ⟨b, 0, none⟩)]] x.w (Ends W (.bool (badB p f))) := by
  go_enter Try.func104, Try.ntmps104
  go_wp2_with (go_at_call 144; refine (pindexBad x _ _ p f b hv hf hfit hb hc).mono ?_; rintro e w' ⟨j, rfl, hj, x, rfl⟩; replace hj := Lib.hid hj)
  go_ret; exact ⟨ret_bool hj.out, x, rfl⟩

set_option maxRecDepth 100000 in
set_option maxHeartbeats 1000000 in
theorem pagrees {W : World} (x : Later W) (v0 v1 v2 vf : Value) (p : Prob) (f : List Int) (hp : IsProb W v0 v1 v2 p) (hf : IsInts W vf f) (hv : validP p = true) (hfl : fillB p f = true) :
    Calls Try.prog 101 #[.agg #[v0, v1, v2], vf] x.w (Ends W (.bool (agreesB p f))) := by
  have hlen : Hid (f.length = p.opts.length) := Lib.hid (by rw [(fillB_iff.1 hfl).1, valid_len hv])
  have hfill := Lib.hid (fun i (hi : i < f.length) => fill_at hfl hi)
  have hfit := Lib.hid (fun i (hi : i < p.rules.length) => fits_of hv hfl hi)
  have heq := Lib.hid (agreesB_eq p f)
  clear hv hfl
  obtain ⟨af, cf, rfl, lf, _⟩ := hf.opened
  go_enter Try.func101, Try.ntmps101
  go_upto_region 1 with (fail)
  obtain ⟨W1, x1, e1, hb1, ⟨s1, s2⟩, ⟨p0, p1, p2⟩, q0⟩ := enter31 x v0 v1 v2 (.slice af f.length cf) 26 22
  rw [e1]; clear e1
  have HP := Lib.hid (hp.below hb1)
  have HF := Lib.hid (hf.below hb1)
  obtain ⟨ap, cp, rfl, lp, _⟩ := hp.panes.opened
  obtain ⟨ao, co, rfl, lo, _⟩ := hp.opts.opened
  obtain ⟨ar, cr, rfl, lr, _⟩ := hp.rules.opened
  clear hp hf
  cases hA : soundB p f
  · go_wp2_with (go_at_call 91; refine (psound x1 _ _ _ _ p f HP.out HF.out hlen.out hfill.out).mono ?_; rintro e w' ⟨rfl, x1, rfl⟩)
    go_ret; exact ⟨ret_bool (by rw [heq.out, hA]; rfl), x1.down hb1⟩
  · go_wp2_with (first | (go_at_call 91; refine (psound x1 _ _ _ _ p f HP.out HF.out hlen.out hfill.out).mono ?_; rintro e w' ⟨rfl, x1, rfl⟩) | (go_at_call 104; refine (phasBad x1 _ _ p f _ HP.out.rules HF.out hfit.out s2 q0).mono ?_; rintro e w' ⟨rfl, x1, rfl⟩))
    go_ret; exact ⟨ret_bool (by rw [heq.out, hA]; rfl), x1.down hb1⟩
end Go.Proofs.Ytmpkbolabdmkkaa

/- CONTRACT of places' Agrees. -/
namespace Go.Proofs.Ytmpkbolabdmkkaa
open Go.RowKit

set_option maxRecDepth 100000 in
set_option maxHeartbeats 1000000 in
theorem pAgrees {W : World} (x : Later W) (v0 v1 v2 vf : Value) (p : Prob) (f : List Int) (hp : IsProb W v0 v1 v2 p) (hf : IsInts W vf f) :
    Calls Try.prog 41 #[.agg #[v0, v1, v2], vf] x.w (Ends W (.tuple #[.bool (agrB p f), .int .i64 (wrongC p f)])) := by
  go_enter Try.func41, Try.ntmps41
  go_upto_region 1 with (fail)
  obtain ⟨W1, x1, e1, hb1, s1, p0, p1, p2⟩ := enter3 x v0 v1 v2 26
  rw [e1]; clear e1
  have HP := Lib.hid (hp.below hb1)
  have HF := Lib.hid (hf.below hb1)
  obtain ⟨ap, cp, rfl, lp, _⟩ := hp.panes.opened
  obtain ⟨ao, co, rfl, lo, _⟩ := hp.opts.opened
  obtain ⟨ar, cr, rfl, lr, _⟩ := hp.rules.opened
  clear hp
  by_cases h0 : wrongC p f = 0
  · have hw : (wrongC p f != 0) = false := by simp [h0]
    have hv := Lib.hid (wrongC_iff.1 h0)
    have hr : Hid (agrB p f = agreesB p f) := Lib.hid (by simp [agrB, h0])
    replace h0 := Lib.hid h0
    go_wp2_with (first | (go_at_call 90; refine (pwrong x1 _ _ _ _ p f HP.out HF.out).mono ?_; rintro e w' ⟨rfl, x1, rfl⟩) | (go_at_call 101; refine (pagrees x1 _ _ _ _ p f HP.out HF.out hv.out.1 hv.out.2).mono ?_; rintro e w' ⟨rfl, x1, rfl⟩))
    go_ret2; exact ⟨by rw [hr.out, h0.out]; rfl, x1.down hb1⟩
  · have hw : (wrongC p f != 0) = true := by simp [h0]
    have hr : Hid (agrB p f = false) := Lib.hid (by simp [agrB, h0])
    clear h0
    go_wp2_with (go_at_call 90; refine (pwrong x1 _ _ _ _ p f HP.out HF.out).mono ?_; rintro e w' ⟨rfl, x1, rfl⟩)
    go_ret2; exact ⟨by rw [hr.out]; rfl, x1.down hb1⟩
end Go.Proofs.Ytmpkbolabdmkkaa

/- CONTRACT of places' Breaks. -/
namespace Go.Proofs.Ytmpkbolabdmkkaa
open Go.RowKit

set_option maxRecDepth 100000 in
set_option maxHeartbeats 1000000 in
theorem pBreaks {W : World} (x : Later W) (v0 v1 v2 vf : Value) (p : Prob) (f : List Int) (hp : IsProb W v0 v1 v2 p) (hf : IsInts W vf f) :
    Calls Try.prog 37 #[.agg #[v0, v1, v2], vf] x.w (EndsIntsE W (brkL p f) (wrongC p f)) := by
  go_enter Try.func37, Try.ntmps37
  go_upto_region 1 with (fail)
  obtain ⟨W1, x1, e1, hb1, s1, p0, p1, p2⟩ := enter3 x v0 v1 v2 26
  rw [e1]; clear e1
  have HP := Lib.hid (hp.below hb1)
  have HF := Lib.hid (hf.below hb1)
  obtain ⟨ap, cp, rfl, lp, _⟩ := hp.panes.opened
  obtain ⟨ao, co, rfl, lo, _⟩ := hp.opts.opened
  obtain ⟨ar, cr, rfl, lr, hr⟩ := HP.out.rules.opened
  clear hp hf
  by_cases h0 : wrongC p f = 0
  · have hw : (wrongC p f != 0) = false := by simp [h0]
    have hv := Lib.hid (wrongC_iff.1 h0)
    have hres : Hid (brkL p f = breaksL p f ∧ wrongC p f = 0) := Lib.hid (by simp [brkL, h0])
    have hfit := Lib.hid (fun i (hi : i < p.rules.length) => fits_of hv.out.1 hv.out.2 hi)
    clear h0
    go_wp2_with (go_at_call 90; refine (pwrong x1 _ _ _ _ p f HP.out HF.out).mono ?_; rintro e w' ⟨rfl, x1, rfl⟩)
    go_loopw [7, 19] (fun v i wr => ∃ k : Nat, k ≤ p.rules.length ∧ i = .int .i64 k ∧ (∃ y : Later W1, wr = y.w ∧ y.w.ownsRow W1.heap.size 3 1 v (breaksTo p f k).length ((breaksTo p f k).map (Value.int .i64)))) (fun _ i _ => p.rules.length - (intOf i).toNat)
    case atStart => exact ⟨0, Nat.zero_le _, rfl, ⟨x1, rfl, World.ownsRow_nil _ _ _ _⟩⟩
    case round =>
      obtain ⟨k, hk, rfl, ⟨x, rfl, hown⟩⟩ := hrel
      have hle := breaksTo_len p f k
      by_cases hlt : k < p.rules.length
      · obtain ⟨b, o, rfl, hb, u2, u3, u6, c0, c1, c2, c3, c4, c5, c6, hR⟩ := hr.out k hlt
        have HR := Lib.hid hR
        obtain ⟨aq, cq, rfl, _, _⟩ := hR.panes.opened
        obtain ⟨ah, ch, rfl, _, _⟩ := hR.hits.opened
        obtain ⟨ak, ck, rfl, _, _⟩ := hR.ok.opened
        clear hR
        go_upto_region 8 with (fail)
        replace hown := owns_later hown (below_alloc1 x.w (.cells #[.int .i64 (nth p.rules k).item, .int .i64 (nth p.rules k).kind, .slice aq (nth p.rules k).panes.length cq, .slice ah (nth p.rules k).hits.length ch, .int .i64 (nth p.rules k).lo, .int .i64 (nth p.rules k).hi, .slice ak (nth p.rules k).ok.length ck] 87))
        obtain ⟨W2, x2, e2, hb2, s2, q0, q1, q2, q3, q4, q5, q6⟩ := enter7 x (.int .i64 (nth p.rules k).item) (.int .i64 (nth p.rules k).kind) (.slice aq (nth p.rules k).panes.length cq) (.slice ah (nth p.rules k).hits.length ch) (.int .i64 (nth p.rules k).lo) (.int .i64 (nth p.rules k).hi) (.slice ak (nth p.rules k).ok.length ck) 87
        rw [e2] at hown ⊢; clear e2 c0 c1 c2 c3 c4 c5 c6 p0 p1 p2
        have hC := Lib.hid (pkeeps (Later.now x2.w) _ _ _ _ p (nth p.rules k) f ((HR.out.below hb2).below x2.h) ((HF.out.below hb2).below x2.h) (hfit.out k hlt))
        cases hA : keepsB (nth p.rules k) f
        · have HS := Lib.hid (breaksTo_yes hA)
          go_wp2_with (first | (go_at_call 97; refine (calls_on x2 hC.out).mono ?_; rintro e w' ⟨rfl, y, rfl, hy⟩; replace hown := owns_later hown hy; clear hy; obtain ⟨y, hz⟩ := y.down hb2; rw [hz] at hown ⊢; clear hz) | (at_builtin; refine wpList_app1 y 22 3 _ 8 Try.info3 rfl Try.underlying22 rfl _ _ rfl _ _ _ (by rfl) hown _ (by rfl) (by rfl) (by omega) (by omega) ?_; intro v' x hown' hgr))
          go_roundw
          case rel => exact ⟨k + 1, by omega, by go_num, ⟨x, rfl, owns_step hown' HS.out⟩⟩
          case measure => simp [intOf]; omega
        · have HS := Lib.hid (breaksTo_no hA)
          go_wp2_with (go_at_call 97; refine (calls_on x2 hC.out).mono ?_; rintro e w' ⟨rfl, y, rfl, hy⟩; replace hown := owns_later hown hy; clear hy; obtain ⟨y, hz⟩ := y.down hb2; rw [hz] at hown ⊢; clear hz)
          go_roundw
          case rel => exact ⟨k + 1, by omega, by go_num, ⟨y, rfl, by rw [HS.out]; exact hown⟩⟩
          case measure => simp [intOf]; omega
      · obtain rfl : k = p.rules.length := by omega
        go_wp2
        go_ret2
        obtain ⟨z, hz⟩ := x.down hb1
        have hI := isInts_of_owns hown (by omega)
        rw [hz] at hI
        exact ⟨_, by rw [hres.out.2]; rfl, z, hz, by rw [hres.out.1]; exact hI⟩
  · have hw : (wrongC p f != 0) = true := by simp [h0]
    have hres : Hid (brkL p f = []) := Lib.hid (by simp [brkL, h0])
    clear h0
    go_wp2_with (go_at_call 90; refine (pwrong x1 _ _ _ _ p f HP.out HF.out).mono ?_; rintro e w' ⟨rfl, x1, rfl⟩)
    go_ret2
    obtain ⟨z, hz⟩ := x1.down hb1
    exact ⟨_, rfl, z, hz, hz ▸ (hres.out ▸ isInts_of_owns (l := []) (World.ownsRow_nil _ W1.heap.size 3 1) (by simp))⟩
end Go.Proofs.Ytmpkbolabdmkkaa

/- The library's slices at this program: Clone and Compact of ints. -/
namespace Go.Proofs.Ytmpkbolabdmkkaa
open Go.Shelf
shelf_lay_g SlLaysE.n43 Slgn 43 at Try 99 as Try.compactI
end Go.Proofs.Ytmpkbolabdmkkaa
namespace Go.Proofs.Ytmpkbolabdmkkaa
open Go.RowKit

theorem below_putRow {α : Type} [Inhabited α] (enc : α → Value) {B : Nat} {a w : World} (h : Below B a w) {blk : Nat} (hB : B ≤ blk) (q off : Nat) (d : Array α) : Below B a (Sort.putRow enc (Sort.ahead w q) blk off d) :=
  ⟨h.os, h.tape, h.output, by rw [Sort.size_putRow]; exact h.size, fun k hk => by
    rw [← h.block k hk]
    show (w.heap.modify blk _)[k]? = _
    rw [Array.getElem?_modify, if_neg (by omega)]⟩

set_option maxRecDepth 100000 in
set_option maxHeartbeats 1000000 in
theorem pcloneI {W : World} (x : Later W) (v : Value) (l : List Int) (h : IsInts W v l) : Calls Try.prog 68 #[v] x.w (EndsOwn W l) := by
  obtain ⟨a, c, rfl, ll, h⟩ := h.opened
  have q22 : ∀ (w : World) (a : Option Addr) (n c n' c' : Nat), (binOp .eql 22 (.slice a n c) (.slice none n' c')).run Try.prog w = .ok (.bool a.isNone) w := fun w a n c n' c' => Lib.run_eql_slice_nil w _ _ a n c n' c' Try.underlying22
  cases a with
  | none =>
    obtain rfl : l = [] := by
      cases l with
      | nil => rfl
      | cons y t => obtain ⟨_, _, he, _⟩ := h.out 0 (by simp); cases he
    go_enter Try.func68, Try.ntmps68
    go_wp2
    go_ret; exact ⟨_, rfl, x, rfl, World.ownsRow_nil _ _ _ _⟩
  | some a =>
    go_enter Try.func68, Try.ntmps68
    obtain ⟨z, hz, hown⟩ := owns_empty x 3 1
    go_wp2_with (at_builtin; refine wpList_appN z 22 3 _ 1 8 Try.info3 rfl (by decide) Try.underlying22 rfl _ _ rfl _ _ _ (by rfl) hown (some a) l.length c (l.map (Value.int .i64)) (by rfl) (by simp) (ints_cells h.out z) (ints_one l) (by omega) (by omega) ?_; intro v' x hown' _; obtain ⟨A', c', rfl⟩ := owns_slice hown')
    clear hz hown
    simp only [Nat.zero_add, List.nil_append] at hown' ⊢
    go_ret; exact ⟨_, rfl, x, rfl, hown'⟩
/-- runs of equal elements made one -/
def compL (l : List Int) : List Int := Lib.compactUpTo l.toArray l.toArray.size

set_option maxRecDepth 100000 in
set_option maxHeartbeats 1000000 in
theorem pcompact {W : World} (x : Later W) (v : Value) (l : List Int) (hown : x.w.ownsRow W.heap.size 3 1 v l.length (l.map (Value.int .i64))) (hn : l.length ≤ 17592186044416) :
    Calls Try.prog 99 #[v] x.w (EndsInts W (compL l)) := by
  have hI := isInts_of_owns hown hn
  by_cases h2 : l.length < 2
  · obtain ⟨a, c, rfl⟩ := owns_slice hown
    have he : compL l = l := by
      match l, h2 with
      | [], _ => rfl
      | [y], _ => rfl
    go_enter Try.func99, Try.ntmps99
    go_wp2
    go_ret; exact ⟨_, rfl, x, rfl, by rw [he]; exact hI⟩
  · obtain ⟨g, c, rfl, hge, hlt⟩ := owns_head hown (by omega)
    have hH : Sort.Holds (Value.int .i64) x.w g 0 l.toArray := fun j hj => by
      have hj' : j < l.length := by simpa using hj
      obtain ⟨h1, h3, _⟩ := owns_at x hown j hj'
      refine ⟨?_, by rw [Nat.zero_add]; exact h3⟩
      rw [Nat.zero_add, h1]; simp [hj']
    have hcap : l.toArray.size ≤ c := by
      rcases hown.2 with ⟨h, _⟩ | ⟨g', cap, cur, he, h⟩
      · cases h
      · cases he; simpa using h.2.2.1
    have hle : (compL l).length ≤ l.length := by
      unfold compL Lib.compactUpTo; simp; exact Nat.le_trans (List.length_filter_le _ _) (by simp)
    have hsz : (compL l ++ List.replicate (l.toArray.size - (compL l).length) 0).toArray.size = l.toArray.size := by simp; omega
    refine (AnyE.slices_Compact Try.compactI (Value.int .i64) (fun _ => rfl) (EqlAt.intD _ _ .i64) (NeqAt.intD _ _ .i64) 0 Try.zeroValue3 g 0 c l.toArray x.w hH (by simp; omega) hcap).mono ?_
    rintro e w' ⟨rfl, q, rfl⟩
    refine ⟨_, rfl, ⟨_, below_putRow (Value.int .i64) x.h hge q 0 (compL l ++ List.replicate (l.toArray.size - (compL l).length) 0).toArray⟩, rfl, ?_⟩
    refine ⟨_, _, rfl, by omega, fun i hi => ⟨g, 0, rfl, ?_, ?_⟩⟩
    · show g < (Sort.putRow _ _ _ _ _).heap.size; rw [Sort.size_putRow]; exact hlt
    · refine (Sort.cell?_putRow (Value.int .i64) (Sort.ahead x.w q) g 0 l.toArray _ hH hsz i ?_).trans ?_
      · rw [hsz]; simp; omega
      · rw [nth_eq (compL l) i hi]; simp; rw [List.getElem?_append_left hi, List.getElem?_eq_getElem hi]; rfl
end Go.Proofs.Ytmpkbolabdmkkaa

/- CONTRACT of places' Violates. -/
namespace Go.Proofs.Ytmpkbolabdmkkaa
open Go.RowKit

theorem cUp_congr {d d' : Array Int} {m : Nat} (h : ∀ j, j < m → d[j]! = d'[j]!) : Lib.compactUpTo d m = Lib.compactUpTo d' m := by
  induction m with
  | zero => rfl
  | succ m ih =>
    rw [Lib.compactUpTo_succ, Lib.compactUpTo_succ, ih (fun j hj => h j (by omega))]
    have e : Lib.keeps d m = Lib.keeps d' m := by
      unfold Lib.keeps
      by_cases hm : m = 0
      · simp [hm]
      · rw [h m (by omega), h (m - 1) (by omega)]
    rw [e, h m (by omega)]
theorem compL_snoc (l : List Int) (a : Int) : compL (l ++ [a]) = if l.getLast? = some a then compL l else compL l ++ [a] := by
  unfold compL
  have e : (l ++ [a]).toArray.size = l.length + 1 := by simp
  rw [e, Lib.compactUpTo_succ]
  have e2 : Lib.compactUpTo (l ++ [a]).toArray l.length = Lib.compactUpTo l.toArray l.toArray.size := by
    have : l.toArray.size = l.length := by simp
    rw [this]
    refine cUp_congr fun j hj => ?_
    simp [List.getElem?_append_left hj]
  rw [e2]
  have e3 : (l ++ [a]).toArray[l.length]! = a := by simp
  rw [e3]
  by_cases hl : l.getLast? = some a
  · rw [if_pos hl]
    have hk : Lib.keeps (l ++ [a]).toArray l.length = false := by
      have h0 : 0 < l.length := by cases l with
        | nil => cases hl
        | cons _ _ => simp
      refine Lib.keeps_neg h0 ?_
      rw [e3]
      rw [List.getLast?_eq_getElem?] at hl
      simp [List.getElem?_append_left (show l.length - 1 < l.length by omega), hl]
    rw [hk]; simp
  · rw [if_neg hl]
    have hk : Lib.keeps (l ++ [a]).toArray l.length = true := by
      unfold Lib.keeps
      rw [decide_eq_true_iff]
      by_cases h0 : l.length = 0
      · exact .inl h0
      · refine .inr fun he => hl ?_
        rw [e3] at he
        rw [List.getLast?_eq_getElem?]
        rw [he]
        have h1 : l.length - 1 < l.length := by omega
        simp [List.getElem?_append_left h1, h1]
    rw [hk]; simp
theorem compL_last (l : List Int) : (compL l).getLast? = l.getLast? := by
  rcases List.eq_nil_or_concat l with rfl | ⟨l', a, rfl⟩
  · rfl
  · rw [List.concat_eq_append, compL_snoc]
    split
    · rename_i h
      rw [compL_last l', h]; simp
    · simp
termination_by l.length
/-- the items of the rules that a filling breaks -/
def itemsOf (p : Prob) (l : List Int) : List Int := l.map fun i => (nth p.rules i.toNat).item
theorem viol_comp (p : Prob) (f : List Int) : ∀ k, violTo p f k = compL (itemsOf p (breaksTo p f k))
  | 0 => rfl
  | k + 1 => by
    have ih := viol_comp p f k
    cases h : keepsB (nth p.rules k) f
    · rw [breaksTo_yes h]
      have e : itemsOf p (breaksTo p f k ++ [(k : Int)]) = itemsOf p (breaksTo p f k) ++ [(nth p.rules k).item] := by simp [itemsOf]
      rw [e, compL_snoc]
      show (if _ then _ else _) = _
      rw [ih, compL_last]
      simp [h]
    · rw [breaksTo_no h]
      show (if _ then _ else _) = _
      rw [if_pos (.inl h), ih]
theorem vio_comp (p : Prob) (f : List Int) : vioL p f = compL (itemsOf p (brkL p f)) := by
  unfold vioL brkL
  split
  · exact viol_comp p f _
  · rfl
theorem brkL_len (p : Prob) (f : List Int) : (brkL p f).length ≤ p.rules.length := by
  unfold brkL; split
  · exact breaksTo_len p f _
  · simp
theorem breaksTo_at (p : Prob) (f : List Int) : ∀ k i, i < (breaksTo p f k).length → 0 ≤ nth (breaksTo p f k) i ∧ nth (breaksTo p f k) i < k
  | 0, i, hi => absurd hi (Nat.not_lt_zero _)
  | k + 1, i, hi => by
    cases h : keepsB (nth p.rules k) f
    · rw [breaksTo_yes h] at hi ⊢
      by_cases hi' : i < (breaksTo p f k).length
      · have := breaksTo_at p f k i hi'
        have e : nth (breaksTo p f k ++ [(k : Int)]) i = nth (breaksTo p f k) i := by rw [nth_eq _ i hi, nth_eq _ i hi']; exact List.getElem_append_left hi'
        rw [e]; omega
      · have e : nth (breaksTo p f k ++ [(k : Int)]) i = k := by
          have e1 : i = (breaksTo p f k).length := by simp at hi; omega
          subst e1; rw [nth_eq _ _ hi]; simp
        rw [e]; omega
    · rw [breaksTo_no h] at hi ⊢
      have := breaksTo_at p f k i hi; omega
theorem brkL_at (p : Prob) (f : List Int) {i : Nat} (hi : i < (brkL p f).length) : 0 ≤ nth (brkL p f) i ∧ nth (brkL p f) i < p.rules.length := by
  unfold brkL at hi ⊢; split at hi
  · rename_i h; rw [if_pos h]; exact breaksTo_at p f _ i hi
  · exact absurd hi (Nat.not_lt_zero _)
theorem itemsOf_step (p : Prob) {l : List Int} {k : Nat} (hk : k < l.length) : itemsOf p (l.take (k + 1)) = itemsOf p (l.take k) ++ [(nth p.rules (nth l k).toNat).item] := by
  unfold itemsOf; rw [List.take_succ_eq_append_getElem hk, nth_eq l k hk, List.map_append]; rfl

set_option maxRecDepth 100000 in
set_option maxHeartbeats 1000000 in
theorem pViolates {W : World} (x : Later W) (v0 v1 v2 vf : Value) (p : Prob) (f : List Int) (hp : IsProb W v0 v1 v2 p) (hf : IsInts W vf f) :
    Calls Try.prog 39 #[.agg #[v0, v1, v2], vf] x.w (EndsIntsE W (vioL p f) (wrongC p f)) := by
  go_enter Try.func39, Try.ntmps39
  go_upto_region 1 with (fail)
  obtain ⟨W1, x1, e1, hb1, s1, p0, p1, p2⟩ := enter3 x v0 v1 v2 26
  rw [e1]; clear e1
  have HP := Lib.hid (hp.below hb1)
  have HF := Lib.hid (hf.below hb1)
  obtain ⟨ap, cp, rfl, lp, _⟩ := hp.panes.opened
  obtain ⟨ao, co, rfl, lo, _⟩ := hp.opts.opened
  obtain ⟨ar, cr, rfl, lr, hr⟩ := HP.out.rules.opened
  clear hp hf
  have hat := Lib.hid (fun i => @brkL_at p f i)
  have hle := brkL_len p f
  have hvio := Lib.hid (vio_comp p f)
  have hstep := Lib.hid (fun k => @itemsOf_step p (brkL p f) k)
  have hC := Lib.hid (fun z : Later W1 => pBreaks (Later.now z.w) _ _ _ _ p f (HP.out.below z.h) (HF.out.below z.h))
  go_wp2_with (go_at_call 37; refine (hC.out x1).mono ?_; rintro e w' ⟨v, rfl, y, rfl, hI⟩; obtain ⟨al, cl, rfl, ll, hl⟩ := hI.opened)
  have hb2 : Below W1.heap.size W1 y.w := (x1.up y).h
  have hdown : ∀ z : Later y.w, ∃ u : Later W, z.w = u.w := fun z => z.down (hb1.trans (hb2.mono hb1.size))
  replace hdown := Lib.hid hdown
  replace p2 := Later.cells hb2 p2
  replace s1 := Later.sizes hb2 s1
  replace hr := Lib.hid fun i (hi : i < p.rules.length) => by
    obtain ⟨b, o, ha, hb, u2, u3, u6, c0, _⟩ := hr.out i hi
    exact (⟨b, o, ha, Later.sizes hb2 hb, Later.cells hb2 c0⟩ : ∃ b o, ar = some ⟨b, o, none⟩ ∧ (∀ z : Later y.w, b < z.w.heap.size) ∧ (∀ z : Later y.w, z.w.cell? ⟨b, o + i * 7, none⟩ = some (.int .i64 (nth p.rules i).item)))
  clear p0 p1 hC
  go_wp2_with fail
  go_loopw [8, 19] (fun v i wr => ∃ k : Nat, k ≤ (brkL p f).length ∧ i = .int .i64 k ∧ (∃ z : Later y.w, wr = z.w ∧ z.w.ownsRow y.w.heap.size 3 1 v k ((itemsOf p ((brkL p f).take k)).map (Value.int .i64)))) (fun _ i _ => (brkL p f).length - (intOf i).toNat)
  case atStart => exact ⟨0, Nat.zero_le _, rfl, ⟨Later.now _, rfl, World.ownsRow_nil _ _ _ _⟩⟩
  case round =>
    obtain ⟨k, hk, rfl, ⟨z, rfl, hown⟩⟩ := hrel
    by_cases hlt : k < (brkL p f).length
    · obtain ⟨b, o, rfl, hb, c0⟩ := hl.out k hlt
      obtain ⟨g0, g1⟩ := hat.out k hlt
      obtain ⟨br, or, rfl, hbr, d0⟩ := hr.out (nth (brkL p f) k).toNat (by omega)
      have HS := Lib.hid (hstep.out k hlt)
      go_wp2_with (at_builtin; refine wpList_app1 z 22 3 _ 8 Try.info3 rfl Try.underlying22 rfl _ _ rfl _ _ _ (by rfl) hown _ (by rfl) (by rfl) (by omega) (by omega) ?_; intro v' x hown' hgr)
      go_roundw
      case rel => exact ⟨k + 1, by omega, by go_num, ⟨x, rfl, by rw [HS.out]; simpa using hown'⟩⟩
      case measure => simp [intOf]; omega
    · obtain rfl : k = (brkL p f).length := by omega
      rw [List.take_length] at hown
      have hlen : (itemsOf p (brkL p f)).length = (brkL p f).length := by simp [itemsOf]
      rw [← hlen] at hown
      replace hlen := Lib.hid hlen
      have hC := Lib.hid (pcompact z _ _ hown (by rw [hlen.out]; omega))
      go_wp2_with (go_at_call 99; refine hC.out.mono ?_; rintro e w' ⟨v, rfl, y2, rfl, hI2⟩)
      go_ret2
      obtain ⟨u, hu⟩ := hdown.out y2
      rw [hu] at hI2
      exact ⟨_, rfl, u, hu, by rw [hvio.out]; exact hI2⟩
end Go.Proofs.Ytmpkbolabdmkkaa
