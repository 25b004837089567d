/- TREES IN MEMORY: what a node is, rows of nodes that grow. -/
import Derived.Test.YtmpkbolabdmkkaaZSuC
import Derived.Test.YtmpkbolabdmkkaaZPoB
namespace Go.Proofs.Ytmpkbolabdmkkaa
open Go.RowKit

theorem Try.info64 : (Try.prog.info? 64).map (fun i => (i.zero, i.size, i.bytes)) = some (some (.agg #[.int .i64 0, .int .i64 0, .slice none 0 0]), 3, 40) := by kernel_rfl
theorem Try.underlying62 : Try.prog.underlying 62 = some (.slice 64) := by kernel_rfl

mutual
/-- the kids of a node, from a slice -/
def IsNd (w : World) (v : Value) : Nd → Prop
  | .mk _ _ ks => ∃ a c, v = .slice a ks.length c ∧ ks.length ≤ 3518437208883 ∧ IsNds w a ks 0
def IsNds (w : World) (a : Option Addr) : List Nd → Nat → Prop
  | [], _ => True
  | n :: ks, i => (∃ b o u, a = some ⟨b, o, none⟩ ∧ b < w.heap.size ∧ w.cell? ⟨b, o + i * 3, none⟩ = some (.int .i64 n.kind) ∧ w.cell? ⟨b, o + i * 3 + 1, none⟩ = some (.int .i64 n.index) ∧ w.cell? ⟨b, o + i * 3 + 2, none⟩ = some u ∧ IsNd w u n) ∧ IsNds w a ks (i + 1)
end
theorem isNds_iff {w : World} {a : Option Addr} : ∀ (ks : List Nd) (j : Nat), IsNds w a ks j ↔ ∀ i, i < ks.length → ∃ b o u, a = some ⟨b, o, none⟩ ∧ b < w.heap.size ∧ w.cell? ⟨b, o + (j + i) * 3, none⟩ = some (.int .i64 (nth ks i).kind) ∧ w.cell? ⟨b, o + (j + i) * 3 + 1, none⟩ = some (.int .i64 (nth ks i).index) ∧ w.cell? ⟨b, o + (j + i) * 3 + 2, none⟩ = some u ∧ IsNd w u (nth ks i)
  | [], j => by simp [IsNds]
  | n :: ks, j => by
    have e0 : nth (n :: ks) 0 = n := rfl
    have es : ∀ i, nth (n :: ks) (i + 1) = nth ks i := fun i => by simp [nth]
    rw [IsNds, isNds_iff ks (j + 1)]
    constructor
    · rintro ⟨h0, h1⟩ i hi
      cases i with
      | zero => rw [e0, Nat.add_zero]; exact h0
      | succ i =>
        rw [es, show j + (i + 1) = j + 1 + i by omega]
        exact h1 i (by simpa using hi)
    · intro h
      refine ⟨by have := h 0 (by simp); rwa [e0, Nat.add_zero] at this, fun i hi => ?_⟩
      have := h (i + 1) (by simpa using hi)
      rwa [es, show j + (i + 1) = j + 1 + i by omega] at this
theorem isNd_iff {w : World} {v : Value} (n : Nd) : IsNd w v n ↔ ∃ a c, v = .slice a n.kids.length c ∧ n.kids.length ≤ 3518437208883 ∧ ∀ i, i < n.kids.length → ∃ b o u, a = some ⟨b, o, none⟩ ∧ b < w.heap.size ∧ w.cell? ⟨b, o + i * 3, none⟩ = some (.int .i64 (nth n.kids i).kind) ∧ w.cell? ⟨b, o + i * 3 + 1, none⟩ = some (.int .i64 (nth n.kids i).index) ∧ w.cell? ⟨b, o + i * 3 + 2, none⟩ = some u ∧ IsNd w u (nth n.kids i) := by
  obtain ⟨k, i, ks⟩ := n
  rw [IsNd]
  simp only [isNds_iff, Nat.zero_add]
  exact Iff.rfl
theorem nd_size : ∀ (n : Nd) (k : Nd), k ∈ n.kids → SizeOf.sizeOf k < SizeOf.sizeOf n
  | .mk _ _ ks, k, h => by
    have := List.sizeOf_lt_of_mem (show k ∈ ks from h)
    simp only [Nd.mk.sizeOf_spec]; omega
theorem IsNd.cov {w w' : World} (hc : Cov w w') {v : Value} (n : Nd) (h : IsNd w v n) : IsNd w' v n := by
  rw [isNd_iff] at h ⊢
  obtain ⟨a, c, hv, hl, h⟩ := h
  refine ⟨a, c, hv, hl, fun i hi => ?_⟩
  obtain ⟨b, o, u, ha, hb, c0, c1, c2, hu⟩ := h i hi
  exact ⟨b, o, u, ha, Nat.lt_of_lt_of_le hb hc.size, hc.cell _ _ _ c0, hc.cell _ _ _ c1, hc.cell _ _ _ c2, hu.cov hc _⟩
termination_by SizeOf.sizeOf n
decreasing_by exact nd_size n _ (nth_mem hi)
theorem cov_of_below {w w' : World} (hb : Below w.heap.size w w') : Cov w w' :=
  ⟨hb.size, fun b o _ h => (hb.cell (p := ⟨b, o, none⟩) (block_lt_of_cell h)).trans h⟩
theorem IsNd.below {w w' : World} (hb : Below w.heap.size w w') {v : Value} {n : Nd} (h : IsNd w v n) : IsNd w' v n := h.cov (cov_of_below hb) n
theorem IsNd.opened {W : World} {v : Value} {n : Nd} (h : IsNd W v n) : ∃ a c, v = .slice a n.kids.length c ∧ n.kids.length ≤ 3518437208883 ∧ Hid (∀ i, i < n.kids.length → ∃ b o, a = some ⟨b, o, none⟩ ∧ (∀ x : Later W, b < x.w.heap.size) ∧ ∃ u, (∀ x : Later W, x.w.cell? ⟨b, o + i * 3, none⟩ = some (.int .i64 (nth n.kids i).kind)) ∧ (∀ x : Later W, x.w.cell? ⟨b, o + i * 3 + 1, none⟩ = some (.int .i64 (nth n.kids i).index)) ∧ (∀ x : Later W, x.w.cell? ⟨b, o + i * 3 + 2, none⟩ = some u) ∧ IsNd W u (nth n.kids i)) := by
  obtain ⟨a, c, hv, hl, h⟩ := (isNd_iff n).1 h
  refine ⟨a, c, hv, hl, Lib.hid fun i hi => ?_⟩
  obtain ⟨b, o, u, ha, hb, c0, c1, c2, hu⟩ := h i hi
  exact ⟨b, o, ha, Later.size hb, u, Later.cell hb c0, Later.cell hb c1, Later.cell hb c2, hu⟩
theorem isNd_leaf (w : World) (k i : Int) : IsNd w (.slice none 0 0) (.mk k i []) := (isNd_iff _).2 ⟨none, 0, rfl, by simp [Nd.kids], fun _ h => absurd h (Nat.not_lt_zero _)⟩

/-- the cells of a node -/
def ndCells (x : Nd × Value) : List Value := [.int .i64 x.1.kind, .int .i64 x.1.index, x.2]
/-- nodes, in a row that grows -/
structure KidRow (A : World) (b B : Nat) (v : Value) (l : List Nd) : Prop where
  row : ∃ us : List (Nd × Value), A.ownsRow B 64 3 v l.length (us.flatMap ndCells) ∧ us.map Prod.fst = l ∧ ∀ x ∈ us, IsNd (wout (hidB b v.ownBlock) A) x.2 x.1
  ne : ∀ g, v.ownBlock = some g → b < g
theorem KidRow.nil (A : World) (b B : Nat) : KidRow A b B (.slice none 0 0) [] := ⟨⟨[], World.ownsRow_nil _ _ _ _, rfl, fun _ h => by cases h⟩, fun _ h => by cases h⟩
theorem KidRow.below {A C : World} {b B : Nat} {v : Value} {l : List Nd} (h : KidRow A b B v l) (hb : Below A.heap.size A C) : KidRow C b B v l :=
  let ⟨us, h1, h2, h3⟩ := h.row
  ⟨⟨us, owns_later h1 hb, h2, fun x hx => (h3 x hx).cov (cov_below hb) _⟩, h.ne⟩
/-- another block, not above b, is written -/
theorem KidRow.grown {A C : World} {b B s : Nat} {v : Value} {l : List Nd} (h : KidRow A b B v l) (hs : s ≤ b) (hg : A.grownBy C (some s)) : KidRow C b B v l :=
  let ⟨us, h1, h2, h3⟩ := h.row
  ⟨⟨us, h1.kept hg (.inr fun e => by have := h.ne _ e; omega), h2, fun x hx => (h3 x hx).cov (cov_out hg.size fun k hk hP => ⟨hP, hg.block k hk (fun e => by cases e; have := (hidB_no.1 hP).1; omega)⟩) _⟩, h.ne⟩
theorem KidRow.set {A : World} {b B o : Nat} {v : Value} {l : List Nd} (h : KidRow A b B v l) (u' : Value) : KidRow (A.setCell ⟨b, o, none⟩ u') b B v l :=
  let ⟨us, h1, h2, h3⟩ := h.row
  ⟨⟨us, owns_block h1 (fun g hg => set_block (fun e => by have := h.ne _ hg; omega)), h2, fun x hx => (h3 x hx).cov (cov_set (by simp [hidB])) _⟩, h.ne⟩
theorem KidRow.app {A w' : World} {b B n : Nat} {v v' : Value} {l : List Nd} {us : List (Nd × Value)} (h2 : us.map Prod.fst = l) (h3 : ∀ x ∈ us, IsNd (wout (hidB b v.ownBlock) A) x.2 x.1) (hne : ∀ g, v.ownBlock = some g → b < g)
    (hb : b < n) (hv : ∀ g, v.ownBlock = some g → g < n) (u : Value) (g : Nd) (hu : IsNd (wout (fun k => decide (k < n)) A) u g) (hA : b < A.heap.size)
    (ho : w'.ownsRow B 64 3 v' (l.length + 1) (us.flatMap ndCells ++ ndCells (g, u))) (hg : A.grownBy w' v.ownBlock) (h5 : v'.ownBlock = v.ownBlock ∨ v'.ownBlock = some A.heap.size) : KidRow w' b B v' (l ++ [g]) := by
  have hcov : Cov (wout (hidB b v.ownBlock) A) (wout (hidB b v'.ownBlock) w') := cov_out hg.size fun k hk hP => by
    obtain ⟨k1, k2⟩ := hidB_no.1 hP
    refine ⟨hidB_no.2 ⟨k1, ?_⟩, hg.block k hk (Ne.symm k2)⟩
    rcases h5 with h5 | h5
    · rw [h5]; exact k2
    · rw [h5]; intro e; cases e; omega
  have hcov2 : Cov (wout (fun k => decide (k < n)) A) (wout (hidB b v.ownBlock) A) := cov_fresh fun k hk => hidB_no.2 ⟨by omega, fun e => by have := hv k e; omega⟩
  refine ⟨⟨us ++ [(g, u)], by rw [List.length_append, List.flatMap_append, List.flatMap_cons, List.flatMap_nil, List.append_nil]; exact ho, by rw [List.map_append, h2]; rfl, fun x hx => ?_⟩, ?_⟩
  · rcases List.mem_append.1 hx with hx | hx
    · exact (h3 x hx).cov hcov _
    · rw [List.mem_singleton] at hx; subst hx
      exact (hu.cov hcov2 _).cov hcov _
  · rcases h5 with h5 | h5
    · rw [h5]; exact hne
    · rw [h5]; intro q e; cases e; exact hA
theorem KidRow.is {A : World} {b B : Nat} {v : Value} {l : List Nd} (h : KidRow A b B v l) (hn : l.length ≤ 3518437208883) (k i : Int) : IsNd (wout (hidB b none) A) v (.mk k i l) := by
  obtain ⟨us, h1, h2, h3⟩ := h.row
  have hlen : us.length = l.length := by rw [← h2, List.length_map]
  have hcv : Cov (wout (hidB b v.ownBlock) A) (wout (hidB b none) A) := cov_out (Nat.le_refl _) fun k _ hk => ⟨hidB_no.2 ⟨(hidB_no.1 hk).1, by simp⟩, rfl⟩
  obtain ⟨a, c, hv, _, hc⟩ := owns_cellN (owns_out h1 (P := hidB b none) (fun g hg => hidB_no.2 ⟨h.ne g hg, by simp⟩))
  refine (isNd_iff _).2 ⟨a, c, hv, hn, fun i hi => ?_⟩
  change i < l.length at hi
  show ∃ b_1 o u, a = some ⟨b_1, o, none⟩ ∧ _ ∧ _ = some (Value.int .i64 (nth l i).kind) ∧ _ = some (Value.int .i64 (nth l i).index) ∧ _ ∧ IsNd _ u (nth l i)
  have hx : nth us i ∈ us := nth_mem (by omega)
  have hx1 : (nth us i).1 = nth l i := by
    rw [← h2, nth_eq _ _ (by omega), nth_eq _ _ (by rw [List.length_map]; omega), List.getElem_map]
  have key : ∀ j, j < 3 → ∃ g, a = some ⟨g, 0, none⟩ ∧ g < (wout (hidB b none) A).heap.size ∧ (wout (hidB b none) A).cell? ⟨g, i * 3 + j, none⟩ = (ndCells (nth us i))[j]? := fun j hj => by
    obtain ⟨g, ha, _, hg, _, e⟩ := hc (i * 3 + j) (by omega)
    exact ⟨g, ha, hg, e.trans (flat_at ndCells (fun _ => rfl) us i j (by omega) hj)⟩
  obtain ⟨g, ha, hg, e0⟩ := key 0 (by omega)
  subst ha
  have kk : ∀ j, j < 3 → (wout (hidB b none) A).cell? ⟨g, 0 + i * 3 + j, none⟩ = (ndCells (nth us i))[j]? := fun j hj => by
    obtain ⟨g', ha, _, e⟩ := key j hj
    cases ha
    rw [Nat.zero_add]; exact e
  rw [← hx1]
  exact ⟨g, 0, _, rfl, hg, kk 0 (by omega), kk 1 (by omega), kk 2 (by omega), (h3 _ hx).cov hcv _⟩

/-- the surveyor -/
structure SvAt (w : World) (bs : Nat) (v0 v1 v2 : Value) (N : Int) : Prop where
  lt : bs < w.heap.size
  c0 : w.cell? ⟨bs, 0, none⟩ = some v0
  c1 : w.cell? ⟨bs, 1, none⟩ = some v1
  c2 : w.cell? ⟨bs, 2, none⟩ = some v2
  c3 : w.cell? ⟨bs, 3, none⟩ = some (.int .i64 N)
  f3 : w.frozen? ⟨bs, 3, none⟩ = false
theorem SvAt.below {A C : World} {bs : Nat} {v0 v1 v2 : Value} {N : Int} (h : SvAt A bs v0 v1 v2 N) (hb : Below A.heap.size A C) : SvAt C bs v0 v1 v2 N :=
  have hc : ∀ o, C.cell? ⟨bs, o, none⟩ = A.cell? ⟨bs, o, none⟩ := fun o => World.cell?_of_block (a := ⟨bs, o, none⟩) (hb.block bs h.lt)
  ⟨Nat.lt_of_lt_of_le h.lt hb.size, (hc 0).trans h.c0, (hc 1).trans h.c1, (hc 2).trans h.c2, (hc 3).trans h.c3, (World.frozen?_of_block (a := ⟨bs, 3, none⟩) (hb.block bs h.lt)).trans h.f3⟩
theorem SvAt.of_block {A C : World} {bs : Nat} {v0 v1 v2 : Value} {N : Int} (h : SvAt A bs v0 v1 v2 N) (hs : A.heap.size ≤ C.heap.size) (hk : C.heap[bs]? = A.heap[bs]?) : SvAt C bs v0 v1 v2 N :=
  have hc : ∀ o, C.cell? ⟨bs, o, none⟩ = A.cell? ⟨bs, o, none⟩ := fun o => World.cell?_of_block (a := ⟨bs, o, none⟩) hk
  ⟨Nat.lt_of_lt_of_le h.lt hs, (hc 0).trans h.c0, (hc 1).trans h.c1, (hc 2).trans h.c2, (hc 3).trans h.c3, (World.frozen?_of_block (a := ⟨bs, 3, none⟩) hk).trans h.f3⟩
theorem SvAt.set {A : World} {bs : Nat} {v0 v1 v2 : Value} {N : Int} (h : SvAt A bs v0 v1 v2 N) (M : Int) : SvAt (A.setCell ⟨bs, 3, none⟩ (.int .i64 M)) bs v0 v1 v2 M :=
  ⟨by simpa [World.setCell] using h.lt, (World.cell?_setCell_other _ _ _ _ (fun e => by cases e)).trans h.c0, (World.cell?_setCell_other _ _ _ _ (fun e => by cases e)).trans h.c1, (World.cell?_setCell_other _ _ _ _ (fun e => by cases e)).trans h.c2, World.cell?_setCell_same _ _ _ h.c3, (frozen_set _ _ _ _).trans h.f3⟩
theorem grown_below {A B C : World} {s : Nat} (h : A.grownBy B (some s)) (hb : Below B.heap.size B C) : A.grownBy C (some s) :=
  ⟨hb.os.trans h.os, hb.tape.trans h.tape, hb.output.trans h.output, Nat.le_trans h.size hb.size, fun k hk hne => (hb.block k (Nat.lt_of_lt_of_le hk h.size)).trans (h.block k hk hne)⟩
theorem grown_setO {A B : World} {s b : Nat} (h : A.grownBy B (some s)) (hb : A.heap.size ≤ b) (o : Nat) (v : Value) : A.grownBy (B.setCell ⟨b, o, none⟩ v) (some s) :=
  ⟨h.os, h.tape, h.output, by simpa [World.setCell] using h.size, fun k hk hne => (set_block (fun e => by omega)).trans (h.block k hk hne)⟩
theorem grown_trans {A B C : World} {s : Nat} (h : A.grownBy B (some s)) (h' : B.grownBy C (some s)) : A.grownBy C (some s) :=
  ⟨h'.os.trans h.os, h'.tape.trans h.tape, h'.output.trans h.output, Nat.le_trans h.size h'.size, fun k hk hne => (h'.block k (Nat.lt_of_lt_of_le hk h.size) hne).trans (h.block k hk hne)⟩
theorem grown_row {A B C : World} {s : Nat} {r : Option Nat} (h : A.grownBy B (some s)) (h' : B.grownBy C r) (hr : ∀ g, r = some g → A.heap.size ≤ g) : A.grownBy C (some s) :=
  ⟨h'.os.trans h.os, h'.tape.trans h.tape, h'.output.trans h.output, Nat.le_trans h.size h'.size, fun k hk hne => (h'.block k (Nat.lt_of_lt_of_le hk h.size) (fun e => by have := hr k e.symm; omega)).trans (h.block k hk hne)⟩
end Go.Proofs.Ytmpkbolabdmkkaa
