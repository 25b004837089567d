/- A REGION THAT DRAWS ITS ORDER, whose last operations wait for all others: the others are walked once, in the class of later worlds; the last ones as they stand. -/
import Derived.Test.YtmpkbolabdmkkaaZSuF
import Derived.StillTail
import Derived.Deep.Quiet
import Derived.Test.YtmpkbolabdmkkaaZPlX
import Derived.Test.YtmpkbolabdmkkaaZRoB
import Derived.Test.YtmpkbolabdmkkaaZSuC
import Derived.Test.YtmpkbolabdmkkaaZh
namespace Go.Proofs.Ytmpkbolabdmkkaa
open Go Go.RowKit

section
variable {P : Program} {ops : Array Oper} {md : Region.Mode} {C : World → Prop}
/-- whichever comes up next belongs to the first n, f times; then L -/
def headQ (P : Program) (md : Region.Mode) (ops : Array Oper) (C : World → Prop) (n : Nat) (L : Array Bool → Act → Prop) : Nat → Array Bool → Act → Prop
  | 0, done, a => L done a
  | f + 1, done, a => Region.ready md ops done ≠ [] ∧ ∀ i ∈ Region.ready md ops done, i < n ∧ qOp P ops C i (headQ P md ops C n L f (done.setIfInBounds i true)) a
theorem headQ_any {n g : Nat} {L : Array Bool → Act → Prop} {Q : Exit → Act → World → Prop} (hL : ∀ done a w, C w → L done a → wpAny P md ops Q g done a w) :
    ∀ (f : Nat) (done : Array Bool) (a : Act) (w : World), C w → headQ P md ops C n L f done a → wpAny P md ops Q (f + g) done a w := by
  intro f
  induction f with
  | zero => intro done a w hw h; rw [Nat.zero_add]; exact hL _ _ _ hw h
  | succ f ih =>
    intro done a w hw h
    rw [Nat.add_right_comm]
    exact ⟨fun h0 => absurd h0 h.1, fun i hi => wpOp_of_qOp hw (fun a' w' hw' h' => ih _ a' w' hw' h') (h.2 i hi).2⟩
theorem headQ_first {n i : Nat} {oi : Oper} {v : Value} {L : Array Bool → Act → Prop} (hi : ops[i]? = some oi) (hsel : ∀ (j : Nat) (o : Oper) cs b, ops[j]? = some o → o.op ≠ .select cs b)
    (hs : Region.sinkB md ops n = true) (hc : Region.chainB md ops n = true) (hn : n < ops.size) (hin : i < n) (hdone : ∀ done a, L done a → ∀ j ∈ Region.ready md ops done, n ≤ j) :
    ∀ (f : Nat) (done : Array Bool) (a : Act), HeadInv md ops n done → (∀ j oj, ops[j]? = some oj → j ≠ i → done.getD j true = false → (∀ e ∈ oj.after, Region.binds md e = true → e.on ≠ i) → oi.apart ops oj = true) →
      i ∈ Region.ready md ops done → YieldsIn P ops C oi v a → headQ P md ops C n L f (done.setIfInBounds i true) (a.put oi.dst v) → headQ P md ops C n L (f + 1) done a := by
  have small : ∀ done, HeadInv md ops n done → i ∈ Region.ready md ops done → ∀ j ∈ Region.ready md ops done, j < n := fun done inv hr j hj =>
    Nat.lt_of_not_le fun h => tail_waits hs hc hn inv _ i rfl hin (mem_ready.1 hr).1 j h hj
  intro f
  induction f with
  | zero =>
    intro done a inv _ hr hy H
    refine ⟨List.ne_nil_of_mem hr, fun j hj => ⟨small done inv hr j hj, ?_⟩⟩
    by_cases hji : j = i
    · exact hji ▸ hy.qOp hi H
    · have h1 := hdone _ _ H j (ready_mono hj hji)
      have h2 := small done inv hr j hj
      omega
  | succ f ih =>
    intro done a inv hfree hr hy H
    refine ⟨List.ne_nil_of_mem hr, fun j hj => ⟨small done inv hr j hj, ?_⟩⟩
    by_cases hji : j = i
    · exact hji ▸ hy.qOp hi H
    obtain ⟨hjun, oj, hoj, hall⟩ := mem_ready.1 hj
    have hnot : ∀ e ∈ oj.after, Region.binds md e = true → e.on ≠ i := fun e he hb heq => by
      have h1 := hall e he hb
      rw [heq, getD_both (mem_ready.1 hr).1] at h1
      cases h1
    have h2 := qOp_put hoj (hfree j oj hoj hji hjun hnot) (fun cs b => hsel i oi cs b hi) (fun cs b => hsel j oj cs b hoj) hy (H.2 j (ready_mono hj hji)).2
    refine qOp_mono (fun a' h3 => ih _ a' (inv.set hj (small done inv hr j hj)) (fun k ok hk hki hun hno => hfree k ok hk hki ?_ hno) (ready_mono hr (Ne.symm hji)) h3.1 (by rw [Array.setIfInBounds_comm _ _ hji]; exact h3.2)) h2
    by_cases hjk : j = k
    · exact hjk ▸ hjun
    · rwa [getD_set_ne true hjk] at hun
theorem headQ_lex {n g : Nat} {R : Act → Prop} (hsel : Region.noSelect ops = true) (hs : Region.sinkB md ops n = true) (hc : Region.chainB md ops n = true) (hn : n < ops.size) :
    ∀ (l : List Oper) (k : Nat) (done : Array Bool) (a : Act), (∀ j, j < l.length → l[j]? = ops[k + j]?) → k + l.length = n → HeadInv md ops n done → Region.lexHead md ops g l.length k done = true → wpQuiet P ops C R l a →
      headQ P md ops C n (fun done' a' => Region.seqB md ops g n done' = true ∧ R a') l.length done a := by
  intro l
  induction l with
  | nil =>
    intro k done a _ hk _ hB h
    obtain rfl : k = n := by simpa using hk
    exact ⟨by simpa [Region.lexHead] using hB, h⟩
  | cons o l ih =>
    intro k done a hl hk inv hB h
    rw [List.length_cons] at hk
    have h0 : ops[k]? = some o := by simpa using (hl 0 (by simp)).symm
    rw [List.length_cons, Region.lexHead, Bool.and_eq_true, Bool.and_eq_true] at hB
    obtain ⟨⟨hr, hf⟩, hB'⟩ := hB
    have hr' : k ∈ Region.ready md ops done := by simpa using hr
    obtain ⟨v, hy, hK⟩ := yieldsIn_of_qOp (C := C) h0 (show qOp P ops C k (wpQuiet P ops C R l) a by unfold qOp; simp only [h0]; exact h)
    exact headQ_first h0 (Region.noSelect_spec hsel) hs hc hn (by omega) (fun _ _ hL => seqB_ready hL.1) l.length done a inv (Region.free_spec h0 hf) hr' hy
      (ih (k + 1) _ _ (fun j hj => by have := hl (j + 1) (by simp; omega); simpa [Nat.add_assoc, Nat.add_comm 1 j] using this) (by omega) (inv.set hr' (by omega)) hB' hK)
end
/-- the class of later worlds -/
theorem wp_region_later_tail {P : Program} {id : Nat} {Q : Exit → Act → World → Prop} {a : Act} {W : World} {l : List Oper} (x : Later W) (n : Nat) (hm : P.follows .mixedOrders = true) (hB : Region.lexTailB .any l.toArray n = true)
    (h : wpQuiet P l.toArray (fun w' => ∃ y : Later W, w' = y.w) (fun a' => ∀ w', (∃ y : Later W, w' = y.w) → wpList P l.toArray Q (l.drop n) a' w') (l.take n) a) : (Code.region id l.toArray true).wp P Q a x.w := by
  rw [Region.lexTailB] at hB
  simp only [Bool.and_eq_true, decide_eq_true_eq] at hB
  obtain ⟨⟨⟨⟨hsel, hn⟩, hs⟩, hc⟩, hlex⟩ := hB
  have hn' : n < l.length := by simpa using hn
  have htl : (l.take n).length = n := by simp; omega
  have hdl : (l.drop n).length = l.toArray.size - n := by simp
  have inv0 : HeadInv .any l.toArray n (Array.replicate l.toArray.size false) :=
    ⟨by simp, fun j oj _ hl => (by rw [getD_replicate_false] at hl; cases hl), fun t _ ht => getD_in (by simpa using ht) (getD_replicate_false _ _)⟩
  have H := headQ_lex (md := .any) (g := l.toArray.size - n) hsel hs hc hn (l.take n) 0 _ a (fun j hj => by rw [htl] at hj; simp [hj]) (by rw [htl, Nat.zero_add]) inv0 (by rw [htl]; exact hlex) h
  refine wp_region_any hm ?_
  have hA := headQ_any (Q := Q) (g := l.toArray.size - n) (fun done a' w' hw hL => by
    have := wpAny_of_seq (md := .any) (Q' := Q) (l.drop n) n done a' w' (fun j => by simp [List.getElem?_drop]) (by rw [hdl]; exact hL.1) (hL.2 w' hw)
    rwa [hdl] at this) _ _ _ _ (x.drew 1) H
  rw [htl, show n + (l.toArray.size - n) = l.toArray.size by omega] at hA
  exact hA
end Go.Proofs.Ytmpkbolabdmkkaa

/- THE CHECKER, and how it is written. -/
namespace Go.Proofs.Ytmpkbolabdmkkaa
open Go.RowKit

theorem OwnTab.kept {W : World} {y z : Later W} {v : Value} {t : List (List Bool)} {vs : List Value} (h : OwnTab y v t vs) {s : Nat} (hg : y.w.grownBy z.w (some s)) (h1 : v.ownBlock ≠ some s) (h2 : ∀ (i : Nat) (q : Value), vs[i]? = some q → q.ownBlock ≠ some s) : OwnTab z v t vs :=
  ⟨h.outer.kept hg (.inr h1), h.len, fun i hi => let ⟨u, hu, hI⟩ := h.rows i hi; ⟨u, hu, hI.kept hg (.inr (h2 i u hu))⟩, h.apart⟩
/-- the checker: the problem, the numbers of nodes and of fillings, what is possible -/
structure ChkAt (W A : World) (bc sx : Nat) (v0 v1 v2 vt : Value) (vs : List Value) (N C : Nat) (t : List (List Bool)) : Prop where
  tab : ∃ y : Later W, A = y.w ∧ OwnTab y vt t vs
  lt : bc < A.heap.size
  c0 : A.cell? ⟨bc, 0, none⟩ = some v0
  c1 : A.cell? ⟨bc, 1, none⟩ = some v1
  c2 : A.cell? ⟨bc, 2, none⟩ = some v2
  c3 : A.cell? ⟨bc, 3, none⟩ = some (.int .i64 N)
  c4 : A.cell? ⟨bc, 4, none⟩ = some (.int .i64 C)
  c5 : A.cell? ⟨bc, 5, none⟩ = some vt
  f3 : A.frozen? ⟨bc, 3, none⟩ = false
  f4 : A.frozen? ⟨bc, 4, none⟩ = false
  b1 : ∀ b, vt.ownBlock = some b → b < bc
  b2 : ∀ (i : Nat) (q : Value) (b : Nat), vs[i]? = some q → q.ownBlock = some b → b < bc
  hW : W.heap.size ≤ bc
  sp : A.cell? ⟨sx, 0, none⟩ = some (.pointer (some ⟨bc, 0, none⟩))
  spl : sx < A.heap.size
  spn : sx ≠ bc
  b3 : ∀ (i : Nat) (q : Value) (b : Nat), vs[i]? = some q → q.ownBlock = some b → b ≠ sx
/-- what lies above the checker lies as it lay -/
structure Chg (bc : Nat) (A C : World) : Prop where
  os : C.os = A.os
  tape : C.tape = A.tape
  output : C.output = A.output
  size : A.heap.size ≤ C.heap.size
  block : ∀ k, k < A.heap.size → bc < k → C.heap[k]? = A.heap[k]?
theorem Chg.refl (bc : Nat) (A : World) : Chg bc A A := ⟨rfl, rfl, rfl, Nat.le_refl _, fun _ _ _ => rfl⟩
theorem Chg.trans {bc : Nat} {A B C : World} (h : Chg bc A B) (h' : Chg bc B C) : Chg bc A C := ⟨h'.os.trans h.os, h'.tape.trans h.tape, h'.output.trans h.output, Nat.le_trans h.size h'.size, fun k hk hb => (h'.block k (Nat.lt_of_lt_of_le hk h.size) hb).trans (h.block k hk hb)⟩
theorem Chg.below {bc : Nat} {A C : World} (h : Below A.heap.size A C) : Chg bc A C := ⟨h.os, h.tape, h.output, h.size, fun k hk _ => h.block k hk⟩
theorem Chg.set {A : World} {bc b : Nat} (hb : b ≤ bc) (o : Nat) (v : Value) : Chg bc A (A.setCell ⟨b, o, none⟩ v) := ⟨rfl, rfl, rfl, by simp [World.setCell], fun _ _ hk => set_block (by omega)⟩
theorem ChkAt.below {W A C : World} {bc sx N K : Nat} {v0 v1 v2 vt : Value} {vs : List Value} {t : List (List Bool)} (h : ChkAt W A bc sx v0 v1 v2 vt vs N K t) (hb : Below A.heap.size A C) : ChkAt W C bc sx v0 v1 v2 vt vs N K t := by
  obtain ⟨y, rfl, ht⟩ := h.tab
  have hc : ∀ o, C.cell? ⟨bc, o, none⟩ = y.w.cell? ⟨bc, o, none⟩ := fun o => World.cell?_of_block (a := ⟨bc, o, none⟩) (hb.block bc h.lt)
  have hf : ∀ o, C.frozen? ⟨bc, o, none⟩ = y.w.frozen? ⟨bc, o, none⟩ := fun o => World.frozen?_of_block (a := ⟨bc, o, none⟩) (hb.block bc h.lt)
  exact ⟨⟨⟨C, y.h.trans (hb.mono y.h.size)⟩, rfl, ht.later hb⟩, Nat.lt_of_lt_of_le h.lt hb.size, (hc 0).trans h.c0, (hc 1).trans h.c1, (hc 2).trans h.c2, (hc 3).trans h.c3, (hc 4).trans h.c4, (hc 5).trans h.c5, (hf 3).trans h.f3, (hf 4).trans h.f4, h.b1, h.b2, h.hW, (World.cell?_of_block (a := ⟨sx, 0, none⟩) (hb.block sx h.spl)).trans h.sp, Nat.lt_of_lt_of_le h.spl hb.size, h.spn, h.b3⟩
theorem ChkAt.later {W A : World} {bc sx N K : Nat} {v0 v1 v2 vt : Value} {vs : List Value} {t : List (List Bool)} (h : ChkAt W A bc sx v0 v1 v2 vt vs N K t) : Below W.heap.size W A := let ⟨y, e, _⟩ := h.tab; e ▸ y.h
/-- a number of the checker's is written -/
theorem ChkAt.setNode {W A : World} {bc sx N K : Nat} {v0 v1 v2 vt : Value} {vs : List Value} {t : List (List Bool)} (h : ChkAt W A bc sx v0 v1 v2 vt vs N K t) (M : Nat) : ChkAt W (A.setCell ⟨bc, 3, none⟩ (.int .i64 M)) bc sx v0 v1 v2 vt vs M K t := by
  obtain ⟨y, rfl, ht⟩ := h.tab
  obtain ⟨z, hz⟩ := y.setO h.hW 3 (.int .i64 M)
  have hg : y.w.grownBy z.w (some bc) := hz ▸ ⟨rfl, rfl, rfl, by simp [World.setCell], fun k _ hk => set_block (fun e => hk (by rw [e]))⟩
  exact ⟨⟨z, hz, ht.kept hg (fun e => by have := h.b1 bc e; omega) (fun i q hq e => by have := h.b2 i q bc hq e; omega)⟩, by simpa [World.setCell] using h.lt, (World.cell?_setCell_other _ _ _ _ (fun e => by cases e)).trans h.c0, (World.cell?_setCell_other _ _ _ _ (fun e => by cases e)).trans h.c1, (World.cell?_setCell_other _ _ _ _ (fun e => by cases e)).trans h.c2, World.cell?_setCell_same _ _ _ h.c3, (World.cell?_setCell_other _ _ _ _ (fun e => by cases e)).trans h.c4, (World.cell?_setCell_other _ _ _ _ (fun e => by cases e)).trans h.c5, (frozen_set _ _ _ _).trans h.f3, (frozen_set _ _ _ _).trans h.f4, h.b1, h.b2, h.hW, (World.cell?_setCell_other _ _ _ _ (fun e => by cases e)).trans h.sp, by simpa [World.setCell] using h.spl, h.spn, h.b3⟩
theorem ChkAt.setCount {W A : World} {bc sx N K : Nat} {v0 v1 v2 vt : Value} {vs : List Value} {t : List (List Bool)} (h : ChkAt W A bc sx v0 v1 v2 vt vs N K t) (M : Nat) : ChkAt W (A.setCell ⟨bc, 4, none⟩ (.int .i64 M)) bc sx v0 v1 v2 vt vs N M t := by
  obtain ⟨y, rfl, ht⟩ := h.tab
  obtain ⟨z, hz⟩ := y.setO h.hW 4 (.int .i64 M)
  have hg : y.w.grownBy z.w (some bc) := hz ▸ ⟨rfl, rfl, rfl, by simp [World.setCell], fun k _ hk => set_block (fun e => hk (by rw [e]))⟩
  exact ⟨⟨z, hz, ht.kept hg (fun e => by have := h.b1 bc e; omega) (fun i q hq e => by have := h.b2 i q bc hq e; omega)⟩, by simpa [World.setCell] using h.lt, (World.cell?_setCell_other _ _ _ _ (fun e => by cases e)).trans h.c0, (World.cell?_setCell_other _ _ _ _ (fun e => by cases e)).trans h.c1, (World.cell?_setCell_other _ _ _ _ (fun e => by cases e)).trans h.c2, (World.cell?_setCell_other _ _ _ _ (fun e => by cases e)).trans h.c3, World.cell?_setCell_same _ _ _ h.c4, (World.cell?_setCell_other _ _ _ _ (fun e => by cases e)).trans h.c5, (frozen_set _ _ _ _).trans h.f3, (frozen_set _ _ _ _).trans h.f4, h.b1, h.b2, h.hW, (World.cell?_setCell_other _ _ _ _ (fun e => by cases e)).trans h.sp, by simpa [World.setCell] using h.spl, h.spn, h.b3⟩
/-- a mark is set in the table -/
theorem ChkAt.mark {W A : World} {bc sx N K : Nat} {v0 v1 v2 vt : Value} {vs : List Value} {t : List (List Bool)} (h : ChkAt W A bc sx v0 v1 v2 vt vs N K t) {i : Nat} (hi : i < t.length) {k : Nat} (hk : k < (nth t i).length) :
    ∃ g c g' c', vt = .slice (some ⟨g, 0, none⟩) t.length c ∧ g < A.heap.size ∧ A.cell? ⟨g, i, none⟩ = some (.slice (some ⟨g', 0, none⟩) (nth t i).length c') ∧ g' < A.heap.size ∧ (∃ b, A.cell? ⟨g', k, none⟩ = some (.bool b)) ∧ A.frozen? ⟨g', k, none⟩ = false ∧ g' < bc ∧
      ChkAt W (A.setCell ⟨g', k, none⟩ (.bool true)) bc sx v0 v1 v2 vt vs N K (setTab t i k true) := by
  obtain ⟨y, rfl, ht⟩ := h.tab
  obtain ⟨g, c, u, hv, hg, hu, d0, hI, hrow⟩ := ht.at_ hi
  obtain ⟨g', c', rfl, hg', e0, e1, hset⟩ := hrow k hk
  obtain ⟨z, hz, ht'⟩ := hset true
  have hlt : g' < bc := h.b2 i _ g' hu rfl
  have hne : ∀ o, (⟨g', k, none⟩ : Addr) ≠ ⟨bc, o, none⟩ := fun o e => by cases e; omega
  refine ⟨g, c, g', c', hv, hg, d0, hg', ⟨_, e0⟩, e1, hlt, ⟨z, hz, ht'⟩, by simpa [World.setCell] using h.lt, ?_, ?_, ?_, ?_, ?_, ?_, (frozen_set _ _ _ _).trans h.f3, (frozen_set _ _ _ _).trans h.f4, h.b1, h.b2, h.hW, (World.cell?_setCell_other _ _ _ _ (fun e => by cases e; exact h.b3 i _ _ hu rfl rfl)).trans h.sp, by simpa [World.setCell] using h.spl, h.spn, h.b3⟩
  · exact (World.cell?_setCell_other _ _ _ _ (hne 0)).trans h.c0
  · exact (World.cell?_setCell_other _ _ _ _ (hne 1)).trans h.c1
  · exact (World.cell?_setCell_other _ _ _ _ (hne 2)).trans h.c2
  · exact (World.cell?_setCell_other _ _ _ _ (hne 3)).trans h.c3
  · exact (World.cell?_setCell_other _ _ _ _ (hne 4)).trans h.c4
  · exact (World.cell?_setCell_other _ _ _ _ (hne 5)).trans h.c5
end Go.Proofs.Ytmpkbolabdmkkaa

/- CONTRACTS of the checker's leaves. -/
namespace Go.Proofs.Ytmpkbolabdmkkaa
open Go.RowKit

/-- the check is left -/
def PanEnd (W A : World) (bc : Nat) (e : Ending) (w' : World) : Prop := e = .panicked unlawful ∧ (∃ y : Later W, w' = y.w) ∧ Chg bc A w'
def LeafEnd (W A : World) (bc sx : Nat) (v0 v1 v2 vt : Value) (vs : List Value) (N C : Nat) (t : List (List Bool)) (p : Prob) (kd ix : Int) (c : List Int) (e : Ending) (w' : World) : Prop :=
  (leafB p kd ix c = true ∧ e = .returned (.tuple #[]) ∧ ChkAt W w' bc sx v0 v1 v2 vt vs N (if kd = 2 then C + 1 else C) (if kd = 2 then markTo t c c.length else t) ∧ Chg bc A w') ∨ (leafB p kd ix c = false ∧ PanEnd W A bc e w')

set_option maxRecDepth 100000 in
set_option maxHeartbeats 4000000 in
theorem pleaf3 {W A : World} (p : Prob) (v0 v1 v2 vt k vf : Value) (vs : List Value) (t : List (List Bool)) (bc sx N C : Nat) (ix : Int) (c : List Int) (hC : ChkAt W A bc sx v0 v1 v2 vt vs N C t) (hp : IsProb W v0 v1 v2 p) (hk : isSl k) (hf : IsInts (wout (fun q => decide (q ≤ bc)) A) vf c)
    (hcl : c.length ≤ p.opts.length) (hco : ∀ i, i < c.length → 0 ≤ nth c i ∧ nth c i < (nth p.opts i).length) :
    Calls Try.prog 155 #[.pointer (some ⟨bc, 0, none⟩), .agg #[.int .i64 3, .int .i64 ix, k], vf] A (LeafEnd W A bc sx v0 v1 v2 vt vs N C t p 3 ix c) := by
  obtain ⟨ak, lk, ck, rfl⟩ := hk
  have hbA := hC.later
  have HPA := hp.below hbA
  obtain ⟨af, cf, rfl, lf, _⟩ := (hf.cov (cov_all _ _)).opened
  obtain ⟨ap, cp, rfl, lp, _⟩ := hp.panes.opened
  obtain ⟨ao, co, rfl, lo, _⟩ := hp.opts.opened
  obtain ⟨ar, cr, rfl, lr, _⟩ := hp.rules.opened
  obtain ⟨A1, hA1⟩ : ∃ V, A.alloc (.cells #[.int .i64 3, .int .i64 ix, .slice ak lk ck] 64) = V := ⟨_, rfl⟩
  have hb1 : Below A.heap.size A A1 := hA1 ▸ below_alloc1 _ _
  obtain ⟨b4, hB4⟩ : ∃ b, A.heap.size = b := ⟨_, rfl⟩
  have n4 : b4 < A1.heap.size := by rw [← hA1, ← hB4]; simp
  have n0 : ∀ y : Later A1, y.w.cell? ⟨b4, 0, none⟩ = some (.int .i64 3) := Later.cell n4 (by rw [← hA1, ← hB4]; exact World.cell?_alloc_at _ _ _ 0 rfl)
  have n1 : ∀ y : Later A1, y.w.cell? ⟨b4, 1, none⟩ = some (.int .i64 ix) := Later.cell n4 (by rw [← hA1, ← hB4]; exact World.cell?_alloc_at _ _ _ 1 rfl)
  have s4 : ∀ y : Later A1, b4 < y.w.heap.size := Later.size n4
  have hC1 := hC.below hb1
  have sc : ∀ y : Later A1, bc < y.w.heap.size := Later.size hC1.lt
  have d0 : ∀ y : Later A1, y.w.cell? ⟨bc, 0, none⟩ = some (.slice ap p.panes.length cp) := Later.cell hC1.lt hC1.c0
  have d1 : ∀ y : Later A1, y.w.cell? ⟨bc, 1, none⟩ = some (.slice ao p.opts.length co) := Later.cell hC1.lt hC1.c1
  have d2 : ∀ y : Later A1, y.w.cell? ⟨bc, 2, none⟩ = some (.slice ar p.rules.length cr) := Later.cell hC1.lt hC1.c2
  have HP := Lib.hid (HPA.below hb1)
  have HF := Lib.hid ((hf.cov (cov_all _ _)).below hb1)
  have hpan : Hid (∀ y : Later A1, leafB p 3 ix c = false → LeafEnd W A bc sx (.slice ap p.panes.length cp) (.slice ao p.opts.length co) (.slice ar p.rules.length cr) vt vs N C t p 3 ix c (.panicked unlawful) y.w) := Lib.hid (fun y h => .inr ⟨h, rfl, ⟨⟨y.w, (hbA.trans (hb1.mono hbA.size)).trans (y.h.mono (Nat.le_trans hbA.size hb1.size))⟩, rfl⟩, (Chg.below hb1).trans (Chg.below y.h)⟩)
  have hyes : Hid (∀ y : Later A1, leafB p 3 ix c = true → LeafEnd W A bc sx (.slice ap p.panes.length cp) (.slice ao p.opts.length co) (.slice ar p.rules.length cr) vt vs N C t p 3 ix c (.returned (.tuple #[])) y.w) := Lib.hid (fun y h => .inl ⟨h, rfl, by rw [if_neg (by decide), if_neg (by decide)]; exact hC1.below y.h, (Chg.below hb1).trans (Chg.below y.h)⟩)
  have hleaf : Hid (leafB p 3 ix c = (decide (0 < c.length) && wi ix 0 ((c.length : Int) - 2) && decide (0 < pieceAt p c (c.length - 1) ∧ pieceAt p c ix.toNat = pieceAt p c (c.length - 1)))) := Lib.hid rfl
  clear hC hC1 hf hp HPA hbA
  go_enter Try.func155, Try.ntmps155
  go_upto_region 1 with (fail)
  clear hA1 hB4 hb1
  show Code.wp _ _ _ _ (Later.now A1).w
  generalize Later.now A1 = x1
  by_cases h0 : 0 < c.length
  case neg =>
    have hno : Hid (leafB p 3 ix c = false) := Lib.hid (by rw [hleaf.out, decide_eq_false h0]; rfl)
    have hc0 : c.length = 0 := by omega
    replace h0 := Lib.hid h0
    go_wp2_with (go_at_call 154; refine (must_no _).mono ?_; rintro e w' ⟨rfl, rfl⟩)
    exact ⟨rfl, hpan.out _ hno.out⟩
  cases hw : wi ix 0 ((c.length : Int) - 2)
  · have hno : Hid (leafB p 3 ix c = false) := Lib.hid (by rw [hleaf.out, hw]; simp)
    have hpw : ∀ w, Calls Try.prog 94 #[.int .i64 ix, .int .i64 0, .int .i64 ((c.length : Int) - 1 - 1)] w fun e w' => e = .returned (.bool false) ∧ w = w' := fun w => by have h := pwithin ix 0 ((c.length : Int) - 1 - 1) w; rwa [show (c.length : Int) - 1 - 1 = (c.length : Int) - 2 by omega, hw, show (c.length : Int) - 2 = (c.length : Int) - 1 - 1 by omega] at h
    replace hpw := Lib.hid hpw
    go_wp2_with (first | (go_at_call 94; refine (hpw.out _).mono ?_; rintro e w' ⟨rfl, rfl⟩) | (go_at_call 154; refine (must_no _).mono ?_; rintro e w' ⟨rfl, rfl⟩))
    exact ⟨rfl, hpan.out _ hno.out⟩
  have hwi := wi_iff.1 hw
  obtain ⟨i0, hi0⟩ := Int.eq_ofNat_of_zero_le hwi.1
  subst hi0
  have hi0l : i0 < c.length - 1 := by omega
  obtain ⟨n1', hn1⟩ : ∃ n, n = c.length - 1 := ⟨_, rfl⟩
  have hfk := hco i0 (by omega)
  have hfl := hco n1' (by omega)
  obtain ⟨_, _, hqq, _, hfs⟩ := HF.out.opened
  cases hqq
  obtain ⟨_, _, hqq, _, hopts⟩ := HP.out.opts.opened
  cases hqq
  obtain ⟨bf, of, rfl, hbf, q0⟩ := hfs.out i0 (by omega)
  obtain ⟨_, _, he, _, q1⟩ := hfs.out n1' (by omega)
  cases he
  obtain ⟨bo, oo, rfl, hbo, uo, co0, hO⟩ := hopts.out i0 (by omega)
  obtain ⟨_, _, he, _, ul, cl0, hOl⟩ := hopts.out n1' (by omega)
  cases he
  obtain ⟨av, cv, rfl, lv, hV⟩ := hO.opened
  obtain ⟨al, cl, rfl, ll, hL⟩ := hOl.opened
  obtain ⟨bv, ov, rfl, hbv, p0, _⟩ := hV.out (nth c i0).toNat (by omega)
  obtain ⟨bl, ol, rfl, hbl, p1, _⟩ := hL.out (nth c n1').toNat (by omega)
  have e0 : (nth (nth p.opts i0) (nth c i0).toNat).piece = pieceAt p c i0 := rfl
  have e1 : (nth (nth p.opts n1') (nth c n1').toNat).piece = pieceAt p c n1' := rfl
  rw [e0] at p0
  rw [e1] at p1
  have hT : Hid (leafB p 3 i0 c = (decide (0 < pieceAt p c n1') && (pieceAt p c i0 == pieceAt p c n1'))) := Lib.hid (by
    rw [hleaf.out, hw, decide_eq_true h0, ← hn1, Int.toNat_natCast, Bool.true_and, Bool.true_and, Bool.decide_and]; rfl)
  obtain ⟨Pl, hPl⟩ : ∃ n, pieceAt p c n1' = n := ⟨_, rfl⟩
  obtain ⟨Pk, hPk⟩ : ∃ n, pieceAt p c i0 = n := ⟨_, rfl⟩
  rw [hPl] at p1 hT
  rw [hPk] at p0 hT
  have hsub : (c.length : Int) - 1 - 1 = (c.length : Int) - 2 := by omega
  have hsub2 : (c.length : Int) - 1 = (n1' : Int) := by omega
  have hn1l : n1' < c.length := by omega
  have hi0l2 : i0 < c.length := by omega
  have hn1o : n1' < p.opts.length := by omega
  have hi0o : i0 < p.opts.length := by omega
  replace hn1 := Lib.hid hn1
  replace hPl := Lib.hid hPl
  replace hPk := Lib.hid hPk
  replace hwi := Lib.hid hwi
  replace hsub := Lib.hid hsub
  clear hV hL hO hOl e0 e1 hi0l
  have hw2 : wi (i0 : Int) 0 ((n1' : Int) - 1) = true := by rw [show (n1' : Int) - 1 = (c.length : Int) - 2 by have := hn1.out; omega]; exact hw
  go_upto_region 13 with (first | (go_at_call 94; refine (pwithin _ _ _ _).mono ?_; rintro e w' ⟨rfl, rfl⟩; rw [hw2]) | (go_at_call 154; refine (must_yes _).mono ?_; rintro e w' ⟨rfl, rfl⟩))
  refine wp_region_later x1 (by kernel_rfl) (by kernel_rfl) ?_
  repeat (go_big_quiet_step (fail))
  refine wpQuiet_nil ?_
  rintro _ ⟨x1, rfl⟩
  go_upto_region 14 with (fail)
  go_upto_region 14 with (fail)
  cases h1 : decide (0 < Pl)
  · have hno : Hid (leafB p 3 i0 c = false) := Lib.hid (by rw [hT.out, h1]; rfl)
    refine wp_region_later_tail x1 23 (by kernel_rfl) (by kernel_rfl) ?_
    simp only [List.take_succ_cons, List.take_zero, List.drop_succ_cons, List.drop_zero]
    repeat (go_big_quiet_step (fail))
    refine wpQuiet_nil ?_
    rintro _ ⟨x1, rfl⟩
    go_wp2_with (go_at_call 154; refine (must_no _).mono ?_; rintro e w' ⟨rfl, rfl⟩)
    exact ⟨rfl, hpan.out _ hno.out⟩
  · cases h2 : (Pk == Pl)
    · have hno : Hid (leafB p 3 i0 c = false) := Lib.hid (by rw [hT.out, h1, h2]; rfl)
      refine wp_region_later_tail x1 23 (by kernel_rfl) (by kernel_rfl) ?_
      simp only [List.take_succ_cons, List.take_zero, List.drop_succ_cons, List.drop_zero]
      repeat (go_big_quiet_step (fail))
      refine wpQuiet_nil ?_
      rintro _ ⟨x1, rfl⟩
      go_wp2_with (go_at_call 154; refine (must_no _).mono ?_; rintro e w' ⟨rfl, rfl⟩)
      exact ⟨rfl, hpan.out _ hno.out⟩
    · have hyes2 : Hid (leafB p 3 i0 c = true) := Lib.hid (by rw [hT.out, h1, h2]; rfl)
      refine wp_region_later x1 (by kernel_rfl) (by kernel_rfl) ?_
      repeat (go_big_quiet_step ((go_at_call 154; exact calls_same (must_yes _))))
      refine wpQuiet_nil ?_
      rintro _ ⟨x1, rfl⟩
      go_wp2
      first | go_end0 | (refine bodyPost_ret (results_none rfl _ _ _) rfl ?_)
      exact hyes.out _ hyes2.out
end Go.Proofs.Ytmpkbolabdmkkaa

/- CONTRACT of the checker's leaf of the kind 'rule'. -/
namespace Go.Proofs.Ytmpkbolabdmkkaa
open Go.RowKit

set_option maxRecDepth 100000 in
set_option maxHeartbeats 4000000 in
theorem pleaf4 {W A : World} (p : Prob) (v0 v1 v2 vt k vf : Value) (vs : List Value) (t : List (List Bool)) (bc sx N C : Nat) (ix : Int) (c : List Int) (hC : ChkAt W A bc sx v0 v1 v2 vt vs N C t) (hp : IsProb W v0 v1 v2 p) (hcap : ProbCap W v2) (hval : validP p = true) (hk : isSl k) (hf : IsInts (wout (fun q => decide (q ≤ bc)) A) vf c)
    (hco : ∀ i, i < c.length → 0 ≤ nth c i ∧ nth c i < (nth p.opts i).length) :
    Calls Try.prog 155 #[.pointer (some ⟨bc, 0, none⟩), .agg #[.int .i64 4, .int .i64 ix, k], vf] A (LeafEnd W A bc sx v0 v1 v2 vt vs N C t p 4 ix c) := by
  obtain ⟨ak, lk, ck, rfl⟩ := hk
  have hbA := hC.later
  have HPA := hp.below hbA
  obtain ⟨af, cf, rfl, lf, _⟩ := (hf.cov (cov_all _ _)).opened
  obtain ⟨ap, cp, rfl, lp, _⟩ := hp.panes.opened
  obtain ⟨ao, co, rfl, lo, _⟩ := hp.opts.opened
  obtain ⟨ar, cr, rfl, lr, _⟩ := hp.rules.opened
  obtain ⟨A1, hA1⟩ : ∃ V, A.alloc (.cells #[.int .i64 4, .int .i64 ix, .slice ak lk ck] 64) = V := ⟨_, rfl⟩
  have hb1 : Below A.heap.size A A1 := hA1 ▸ below_alloc1 _ _
  obtain ⟨b4, hB4⟩ : ∃ b, A.heap.size = b := ⟨_, rfl⟩
  have n4 : b4 < A1.heap.size := by rw [← hA1, ← hB4]; simp
  have n0 : ∀ y : Later A1, y.w.cell? ⟨b4, 0, none⟩ = some (.int .i64 4) := Later.cell n4 (by rw [← hA1, ← hB4]; exact World.cell?_alloc_at _ _ _ 0 rfl)
  have n1 : ∀ y : Later A1, y.w.cell? ⟨b4, 1, none⟩ = some (.int .i64 ix) := Later.cell n4 (by rw [← hA1, ← hB4]; exact World.cell?_alloc_at _ _ _ 1 rfl)
  have s4 : ∀ y : Later A1, b4 < y.w.heap.size := Later.size n4
  have hC1 := hC.below hb1
  have sc : ∀ y : Later A1, bc < y.w.heap.size := Later.size hC1.lt
  have d0 : ∀ y : Later A1, y.w.cell? ⟨bc, 0, none⟩ = some (.slice ap p.panes.length cp) := Later.cell hC1.lt hC1.c0
  have d1 : ∀ y : Later A1, y.w.cell? ⟨bc, 1, none⟩ = some (.slice ao p.opts.length co) := Later.cell hC1.lt hC1.c1
  have d2 : ∀ y : Later A1, y.w.cell? ⟨bc, 2, none⟩ = some (.slice ar p.rules.length cr) := Later.cell hC1.lt hC1.c2
  have HP := Lib.hid (HPA.below hb1)
  have HF := Lib.hid ((hf.cov (cov_all _ _)).below hb1)
  have hpan : Hid (∀ y : Later A1, leafB p 4 ix c = false → LeafEnd W A bc sx (.slice ap p.panes.length cp) (.slice ao p.opts.length co) (.slice ar p.rules.length cr) vt vs N C t p 4 ix c (.panicked unlawful) y.w) := Lib.hid (fun y h => .inr ⟨h, rfl, ⟨⟨y.w, (hbA.trans (hb1.mono hbA.size)).trans (y.h.mono (Nat.le_trans hbA.size hb1.size))⟩, rfl⟩, (Chg.below hb1).trans (Chg.below y.h)⟩)
  have hyes : Hid (∀ y : Later A1, leafB p 4 ix c = true → LeafEnd W A bc sx (.slice ap p.panes.length cp) (.slice ao p.opts.length co) (.slice ar p.rules.length cr) vt vs N C t p 4 ix c (.returned (.tuple #[])) y.w) := Lib.hid (fun y h => .inl ⟨h, rfl, by rw [if_neg (by decide), if_neg (by decide)]; exact hC1.below y.h, (Chg.below hb1).trans (Chg.below y.h)⟩)
  have hleaf : Hid (leafB p 4 ix c = (wi ix 0 ((p.rules.length : Int) - 1) && brokenB (nth p.rules ix.toNat) c)) := Lib.hid rfl
  have HC := Lib.hid ((hcap.below hp.rules hbA).below HPA.rules hb1)
  clear hC hC1 hf hp HPA hbA
  go_enter Try.func155, Try.ntmps155
  go_upto_region 1 with (fail)
  clear hA1 hB4 hb1
  show Code.wp _ _ _ _ (Later.now A1).w
  generalize Later.now A1 = x1
  cases hw : wi ix 0 ((p.rules.length : Int) - 1)
  · have hno : Hid (leafB p 4 ix c = false) := Lib.hid (by rw [hleaf.out, hw]; rfl)
    have hpw := Lib.hid (fun w => pwithin ix 0 ((p.rules.length : Int) - 1) w)
    rw [hw] at hpw
    go_upto_region 16 with (fail)
    refine wp_region_later_tail x1 27 (by kernel_rfl) (by kernel_rfl) ?_
    simp only [List.take_succ_cons, List.take_zero, List.drop_succ_cons, List.drop_zero]
    repeat (go_big_quiet_step ((go_at_call 94; exact calls_same (hpw.out _))))
    refine wpQuiet_nil ?_
    rintro _ ⟨x1, rfl⟩
    go_wp2_with (go_at_call 154; refine (must_no _).mono ?_; rintro e w' ⟨rfl, rfl⟩)
    exact ⟨rfl, hpan.out _ hno.out⟩
  have hwi := wi_iff.1 hw
  obtain ⟨i0, hi0⟩ := Int.eq_ofNat_of_zero_le hwi.1
  subst hi0
  have hlt : i0 < p.rules.length := by omega
  have hpw := Lib.hid (fun w => pwithin (i0 : Int) 0 ((p.rules.length : Int) - 1) w)
  rw [hw] at hpw
  replace hwi := Lib.hid hwi
  obtain ⟨_, _, hqq, _, hrx⟩ := HP.out.rules.opened
  cases hqq
  obtain ⟨bk, ok, rfl, hbk, u2, u3, u6, r0, r1, r2, r3, r4, r5, r6, hR⟩ := hrx.out i0 hlt
  obtain ⟨t3, t6⟩ := HC.out _ _ _ _ i0 u3 u6 rfl hlt (r3 (Later.now A1)) (r6 (Later.now A1))
  have hbr := Lib.hid (fun y : Later A1 => pbroken y _ _ _ u2 u3 u6 _ p (nth p.rules i0) c HP.out hR HF.out (valid_len hval) (valid_rule hval hlt) (fun i hi => ⟨(valid_opts hval hi).1, Nat.le_trans (valid_opts hval hi).2 (by decide)⟩) t3 t6 hco)
  obtain ⟨aq, cq, rfl, _, _⟩ := hR.panes.opened
  obtain ⟨ah, ch, rfl, _, _⟩ := hR.hits.opened
  obtain ⟨ak2, ck2, rfl, _, _⟩ := hR.ok.opened
  clear hR t3 t6
  have hT : Hid (leafB p 4 i0 c = brokenB (nth p.rules i0) c) := Lib.hid (by rw [hleaf.out, hw, Int.toNat_natCast, Bool.true_and])
  go_upto_region 16 with (fail)
  cases hB : brokenB (nth p.rules i0) c <;> rw [hB] at hbr hT
  · refine wp_region_later_tail x1 27 (by kernel_rfl) (by kernel_rfl) ?_
    simp only [List.take_succ_cons, List.take_zero, List.drop_succ_cons, List.drop_zero]
    repeat (go_big_quiet_step ((first | (go_at_call 94; exact calls_same (hpw.out _)) | (go_at_call 150; exact hbr.out _))))
    refine wpQuiet_nil ?_
    rintro _ ⟨x1, rfl⟩
    go_wp2_with (go_at_call 154; refine (must_no _).mono ?_; rintro e w' ⟨rfl, rfl⟩)
    exact ⟨rfl, hpan.out _ hT.out⟩
  · refine wp_region_later x1 (by kernel_rfl) (by kernel_rfl) ?_
    repeat (go_big_quiet_step ((first | (go_at_call 94; exact calls_same (hpw.out _)) | (go_at_call 150; exact hbr.out _) | (go_at_call 154; exact calls_same (must_yes _)))))
    refine wpQuiet_nil ?_
    rintro _ ⟨x1, rfl⟩
    go_wp2
    first | go_end0 | (refine bodyPost_ret (results_none rfl _ _ _) rfl ?_)
    exact hyes.out _ hT.out
end Go.Proofs.Ytmpkbolabdmkkaa

/- CONTRACT of the checker's leaf of the kind 'agree'. -/
namespace Go.Proofs.Ytmpkbolabdmkkaa
open Go.RowKit

set_option maxRecDepth 100000 in
set_option maxHeartbeats 4000000 in
theorem pleaf2 {W A : World} (p : Prob) (v0 v1 v2 vt k vf : Value) (vs : List Value) (t : List (List Bool)) (bc sx N C : Nat) (ix : Int) (c : List Int) (hC : ChkAt W A bc sx v0 v1 v2 vt vs N C t) (hp : IsProb W v0 v1 v2 p) (hval : validP p = true) (hCb : C ≤ 1000000) (hsh : t.length = p.opts.length ∧ ∀ i, (nth t i).length = (nth p.opts i).length) (hk : isSl k) (hf : IsInts (wout (fun q => decide (q ≤ bc)) A) vf c)
    (hcl : c.length ≤ p.opts.length) (hco : ∀ i, i < c.length → 0 ≤ nth c i ∧ nth c i < (nth p.opts i).length) :
    Calls Try.prog 155 #[.pointer (some ⟨bc, 0, none⟩), .agg #[.int .i64 2, .int .i64 ix, k], vf] A (LeafEnd W A bc sx v0 v1 v2 vt vs N C t p 2 ix c) := by
  obtain ⟨ak, lk, ck, rfl⟩ := hk
  have hbA := hC.later
  have HPA := hp.below hbA
  obtain ⟨af, cf, rfl, lf, _⟩ := (hf.cov (cov_all _ _)).opened
  obtain ⟨ap, cp, rfl, lp, _⟩ := hp.panes.opened
  obtain ⟨ao, co, rfl, lo, _⟩ := hp.opts.opened
  obtain ⟨ar, cr, rfl, lr, _⟩ := hp.rules.opened
  obtain ⟨A1, hA1⟩ : ∃ V, A.alloc (.cells #[.int .i64 2, .int .i64 ix, .slice ak lk ck] 64) = V := ⟨_, rfl⟩
  have hb1 : Below A.heap.size A A1 := hA1 ▸ below_alloc1 _ _
  obtain ⟨b4, hB4⟩ : ∃ b, A.heap.size = b := ⟨_, rfl⟩
  have n4 : b4 < A1.heap.size := by rw [← hA1, ← hB4]; simp
  have n0 : ∀ y : Later A1, y.w.cell? ⟨b4, 0, none⟩ = some (.int .i64 2) := Later.cell n4 (by rw [← hA1, ← hB4]; exact World.cell?_alloc_at _ _ _ 0 rfl)
  have n1 : ∀ y : Later A1, y.w.cell? ⟨b4, 1, none⟩ = some (.int .i64 ix) := Later.cell n4 (by rw [← hA1, ← hB4]; exact World.cell?_alloc_at _ _ _ 1 rfl)
  have s4 : ∀ y : Later A1, b4 < y.w.heap.size := Later.size n4
  have hC1 := hC.below hb1
  have sc : ∀ y : Later A1, bc < y.w.heap.size := Later.size hC1.lt
  have d0 : ∀ y : Later A1, y.w.cell? ⟨bc, 0, none⟩ = some (.slice ap p.panes.length cp) := Later.cell hC1.lt hC1.c0
  have d1 : ∀ y : Later A1, y.w.cell? ⟨bc, 1, none⟩ = some (.slice ao p.opts.length co) := Later.cell hC1.lt hC1.c1
  have d2 : ∀ y : Later A1, y.w.cell? ⟨bc, 2, none⟩ = some (.slice ar p.rules.length cr) := Later.cell hC1.lt hC1.c2
  have HP := Lib.hid (HPA.below hb1)
  have HF := Lib.hid ((hf.cov (cov_all _ _)).below hb1)
  have hpan : Hid (∀ y : Later A1, leafB p 2 ix c = false → LeafEnd W A bc sx (.slice ap p.panes.length cp) (.slice ao p.opts.length co) (.slice ar p.rules.length cr) vt vs N C t p 2 ix c (.panicked unlawful) y.w) := Lib.hid (fun y h => .inr ⟨h, rfl, ⟨⟨y.w, (hbA.trans (hb1.mono hbA.size)).trans (y.h.mono (Nat.le_trans hbA.size hb1.size))⟩, rfl⟩, (Chg.below hb1).trans (Chg.below y.h)⟩)
  have hleaf : Hid (leafB p 2 ix c = (decide (c.length = p.panes.length ∧ ix = 0) && agreesB p c)) := Lib.hid rfl
  have hCx := Lib.hid hC1
  have hAx := Lib.hid (Chg.below (bc := bc) hb1)
  have hfx := Lib.hid hf
  have hbcA := hC.lt
  clear hC hC1 hf hp HPA hbA
  go_enter Try.func155, Try.ntmps155
  go_upto_region 1 with (fail)
  clear hA1 hB4 hb1
  show Code.wp _ _ _ _ (Later.now A1).w
  generalize Later.now A1 = x1
  by_cases h0 : c.length = p.panes.length
  case neg =>
    have hno : Hid (leafB p 2 ix c = false) := Lib.hid (by rw [hleaf.out, decide_eq_false (fun h => h0 h.1)]; rfl)
    have hb0 : ((c.length : Int) == (p.panes.length : Int)) = false := by simp; omega
    replace h0 := Lib.hid h0
    go_wp2_with (go_at_call 154; refine (must_no _).mono ?_; rintro e w' ⟨rfl, rfl⟩)
    exact ⟨rfl, hpan.out _ hno.out⟩
  have hb0 : ((c.length : Int) == (p.panes.length : Int)) = true := by simp [h0]
  cases hix : (ix == 0)
  · have hno : Hid (leafB p 2 ix c = false) := Lib.hid (by rw [hleaf.out, decide_eq_false (fun h => by simp [h.2] at hix)]; rfl)
    replace h0 := Lib.hid h0
    go_wp2_with (go_at_call 154; refine (must_no _).mono ?_; rintro e w' ⟨rfl, rfl⟩)
    exact ⟨rfl, hpan.out _ hno.out⟩
  have hfB : fillB p c = true := fillB_iff.2 ⟨h0, fun i hi => wi_iff.2 (by have := hco i hi; omega)⟩
  have hT : Hid (leafB p 2 ix c = agreesB p c) := Lib.hid (by rw [hleaf.out, decide_eq_true ⟨h0, by simpa using hix⟩, Bool.true_and])
  have hag := Lib.hid (fun y : Later A1 => pagrees y _ _ _ _ p c HP.out HF.out hval hfB)
  replace h0 := Lib.hid h0
  cases hB : agreesB p c <;> rw [hB] at hag hT
  · go_wp2_with (first | (go_at_call 101; refine (hag.out _).mono ?_; rintro e w' ⟨rfl, x1, rfl⟩) | (go_at_call 154; refine (must_no _).mono ?_; rintro e w' ⟨rfl, rfl⟩))
    exact ⟨rfl, hpan.out _ hT.out⟩
  go_upto_region 4 with (first | (go_at_call 101; refine (hag.out _).mono ?_; rintro e w' ⟨rfl, x1, rfl⟩) | (go_at_call 154; refine (must_yes _).mono ?_; rintro e w' ⟨rfl, rfl⟩))
  have hC2 := hCx.out.below x1.h
  have hA2 := hAx.out.trans (Chg.below x1.h)
  have k4 := hC2.c4
  have kf := hC2.f4
  have kz := hC2.lt
  go_upto_region 5 with (fail)
  have hC3 := hC2.setCount (C + 1)
  have hA3 := hA2.trans (Chg.set (A := x1.w) (bc := bc) (Nat.le_refl _) 4 (.int .i64 ((C + 1 : Nat) : Int)))
  rw [show ((C + 1 : Nat) : Int) = (C : Int) + 1 by omega] at hC3 hA3
  obtain ⟨B, hBe⟩ : ∃ B, x1.w.setCell ⟨bc, 4, none⟩ (.int .i64 ((C : Int) + 1)) = B := ⟨_, rfl⟩
  rw [hBe] at hC3 hA3 ⊢
  clear hBe hC2 hA2 k4 kf kz x1 hag
  have hinv : Hid (∀ w', Chg bc A w' → IsInts (wout (fun q => decide (q ≤ bc)) w') (.slice af c.length cf) c) := Lib.hid (fun w' h => hfx.out.cov (cov_out h.size fun q hq hP => ⟨hP, h.block q hq (by simpa using hP)⟩))
  have hcp := Lib.hid h0.out
  have h300 := Lib.hid (fun i (hi : i < p.opts.length) => (valid_opts hval hi).2)
  have hbc1 : bc < A.heap.size := hbcA
  go_wp2
  go_loopw [46] (fun iv wr => ∃ q : Nat, q ≤ c.length ∧ iv = .int .i64 q ∧ Chg bc A wr ∧ ChkAt W wr bc sx (.slice ap p.panes.length cp) (.slice ao p.opts.length co) (.slice ar p.rules.length cr) vt vs N (C + 1) (markTo t c q)) (fun iv _ => c.length - (intOf iv).toNat)
  case atStart => exact ⟨0, Nat.zero_le _, rfl, hA3, hC3⟩
  case round =>
    clear hA3 hC3
    obtain ⟨q, hq, rfl, hchg, hchk⟩ := hrel
    by_cases hlt : q < c.length
    · obtain ⟨_, _, hqq, _, hfs⟩ := ((hinv.out _ hchg).cov (cov_all _ _)).opened
      cases hqq
      obtain ⟨bf, of, rfl, hbf, q0⟩ := hfs.out q hlt
      have q0' := q0 (Later.now wr)
      have hbf' := hbf (Later.now wr)
      change wr.cell? _ = _ at q0'
      change _ < wr.heap.size at hbf'
      have hsp := markTo_shape t c q
      have hco2 := hco q hlt
      have hiq : q < (markTo t c q).length := by rw [hsp.1, hsh.1]; omega
      have hkq : (nth c q).toNat < (nth (markTo t c q) q).length := by rw [hsp.2, hsh.2]; omega
      obtain ⟨g, gc, g', gc', hv, hg, d5, hg', ⟨bb, e5⟩, f5, hlt5, hnew⟩ := hchk.mark hiq hkq
      have k5 := hchk.c5
      have kz := hchk.lt
      rw [hv] at k5
      have hN := Lib.hid hnew
      have hcn := Lib.hid (hchg.trans (Chg.set (A := wr) (bc := bc) (Nat.le_of_lt hlt5) (nth c q).toNat (.bool true)))
      obtain ⟨R, hR⟩ : ∃ R, (markTo t c q).length = R := ⟨_, rfl⟩
      obtain ⟨R2, hR2⟩ : ∃ R2, (nth (markTo t c q) q).length = R2 := ⟨_, rfl⟩
      rw [hR] at hiq k5
      rw [hR2] at hkq d5
      replace hR := Lib.hid hR
      replace hR2 := Lib.hid hR2
      replace hv := Lib.hid hv
      replace hchk := Lib.hid hchk
      replace hchg := Lib.hid hchg
      clear hnew hsp q0 hbf hfs
      go_wp2
      go_roundw
      case rel => exact ⟨q + 1, by omega, by go_num, hcn.out, hN.out⟩
      case measure => simp [intOf]; omega
    · obtain rfl : q = c.length := by omega
      replace hchk := Lib.hid hchk
      replace hchg := Lib.hid hchg
      go_wp2
      first | go_end0 | (refine bodyPost_ret (results_none rfl _ _ _) rfl ?_)
      exact .inl ⟨hT.out, rfl, by rw [if_pos rfl, if_pos rfl]; exact hchk.out, hchg.out⟩
end Go.Proofs.Ytmpkbolabdmkkaa
