/- THE CHECKER, and how it is written. -/
import Derived.Test.YtmpkbolabdmkkaaZSuF
import Derived.Test.YtmpkbolabdmkkaaZPlX
import Derived.Test.YtmpkbolabdmkkaaZRoB
namespace Go.Proofs.Ytmpkbolabdmkkaa
open Go.RowKit

theorem OwnTab.kept {W : World} {y z : Later W} {v : Value} {t : List (List Bool)} {vs : List Value} (h : OwnTab y v t vs) {s : Nat} (hg : y.w.grownBy z.w (some s)) (h1 : v.ownBlock ≠ some s) (h2 : ∀ (i : Nat) (q : Value), vs[i]? = some q → q.ownBlock ≠ some s) : OwnTab z v t vs :=
  ⟨h.outer.kept hg (.inr h1), h.len, fun i hi => let ⟨u, hu, hI⟩ := h.rows i hi; ⟨u, hu, hI.kept hg (.inr (h2 i u hu))⟩, h.apart⟩
/-- the checker: the problem, the numbers of nodes and of fillings, what is possible -/
structure ChkAt (W A : World) (bc sx : Nat) (v0 v1 v2 vt : Value) (vs : List Value) (N C : Nat) (t : List (List Bool)) : Prop where
  tab : ∃ y : Later W, A = y.w ∧ OwnTab y vt t vs
  lt : bc < A.heap.size
  c0 : A.cell? ⟨bc, 0, none⟩ = some v0
  c1 : A.cell? ⟨bc, 1, none⟩ = some v1
  c2 : A.cell? ⟨bc, 2, none⟩ = some v2
  c3 : A.cell? ⟨bc, 3, none⟩ = some (.int .i64 N)
  c4 : A.cell? ⟨bc, 4, none⟩ = some (.int .i64 C)
  c5 : A.cell? ⟨bc, 5, none⟩ = some vt
  f3 : A.frozen? ⟨bc, 3, none⟩ = false
  f4 : A.frozen? ⟨bc, 4, none⟩ = false
  b1 : ∀ b, vt.ownBlock = some b → b < bc
  b2 : ∀ (i : Nat) (q : Value) (b : Nat), vs[i]? = some q → q.ownBlock = some b → b < bc
  hW : W.heap.size ≤ bc
  sp : A.cell? ⟨sx, 0, none⟩ = some (.pointer (some ⟨bc, 0, none⟩))
  spl : sx < A.heap.size
  spn : sx ≠ bc
  b3 : ∀ (i : Nat) (q : Value) (b : Nat), vs[i]? = some q → q.ownBlock = some b → b ≠ sx
/-- what lies above the checker lies as it lay -/
structure Chg (bc : Nat) (A C : World) : Prop where
  os : C.os = A.os
  tape : C.tape = A.tape
  output : C.output = A.output
  size : A.heap.size ≤ C.heap.size
  block : ∀ k, k < A.heap.size → bc < k → C.heap[k]? = A.heap[k]?
theorem Chg.refl (bc : Nat) (A : World) : Chg bc A A := ⟨rfl, rfl, rfl, Nat.le_refl _, fun _ _ _ => rfl⟩
theorem Chg.trans {bc : Nat} {A B C : World} (h : Chg bc A B) (h' : Chg bc B C) : Chg bc A C := ⟨h'.os.trans h.os, h'.tape.trans h.tape, h'.output.trans h.output, Nat.le_trans h.size h'.size, fun k hk hb => (h'.block k (Nat.lt_of_lt_of_le hk h.size) hb).trans (h.block k hk hb)⟩
theorem Chg.below {bc : Nat} {A C : World} (h : Below A.heap.size A C) : Chg bc A C := ⟨h.os, h.tape, h.output, h.size, fun k hk _ => h.block k hk⟩
theorem Chg.set {A : World} {bc b : Nat} (hb : b ≤ bc) (o : Nat) (v : Value) : Chg bc A (A.setCell ⟨b, o, none⟩ v) := ⟨rfl, rfl, rfl, by simp [World.setCell], fun _ _ hk => set_block (by omega)⟩
theorem ChkAt.below {W A C : World} {bc sx N K : Nat} {v0 v1 v2 vt : Value} {vs : List Value} {t : List (List Bool)} (h : ChkAt W A bc sx v0 v1 v2 vt vs N K t) (hb : Below A.heap.size A C) : ChkAt W C bc sx v0 v1 v2 vt vs N K t := by
  obtain ⟨y, rfl, ht⟩ := h.tab
  have hc : ∀ o, C.cell? ⟨bc, o, none⟩ = y.w.cell? ⟨bc, o, none⟩ := fun o => World.cell?_of_block (a := ⟨bc, o, none⟩) (hb.block bc h.lt)
  have hf : ∀ o, C.frozen? ⟨bc, o, none⟩ = y.w.frozen? ⟨bc, o, none⟩ := fun o => World.frozen?_of_block (a := ⟨bc, o, none⟩) (hb.block bc h.lt)
  exact ⟨⟨⟨C, y.h.trans (hb.mono y.h.size)⟩, rfl, ht.later hb⟩, Nat.lt_of_lt_of_le h.lt hb.size, (hc 0).trans h.c0, (hc 1).trans h.c1, (hc 2).trans h.c2, (hc 3).trans h.c3, (hc 4).trans h.c4, (hc 5).trans h.c5, (hf 3).trans h.f3, (hf 4).trans h.f4, h.b1, h.b2, h.hW, (World.cell?_of_block (a := ⟨sx, 0, none⟩) (hb.block sx h.spl)).trans h.sp, Nat.lt_of_lt_of_le h.spl hb.size, h.spn, h.b3⟩
theorem ChkAt.later {W A : World} {bc sx N K : Nat} {v0 v1 v2 vt : Value} {vs : List Value} {t : List (List Bool)} (h : ChkAt W A bc sx v0 v1 v2 vt vs N K t) : Below W.heap.size W A := let ⟨y, e, _⟩ := h.tab; e ▸ y.h
/-- a number of the checker's is written -/
theorem ChkAt.setNode {W A : World} {bc sx N K : Nat} {v0 v1 v2 vt : Value} {vs : List Value} {t : List (List Bool)} (h : ChkAt W A bc sx v0 v1 v2 vt vs N K t) (M : Nat) : ChkAt W (A.setCell ⟨bc, 3, none⟩ (.int .i64 M)) bc sx v0 v1 v2 vt vs M K t := by
  obtain ⟨y, rfl, ht⟩ := h.tab
  obtain ⟨z, hz⟩ := y.setO h.hW 3 (.int .i64 M)
  have hg : y.w.grownBy z.w (some bc) := hz ▸ ⟨rfl, rfl, rfl, by simp [World.setCell], fun k _ hk => set_block (fun e => hk (by rw [e]))⟩
  exact ⟨⟨z, hz, ht.kept hg (fun e => by have := h.b1 bc e; omega) (fun i q hq e => by have := h.b2 i q bc hq e; omega)⟩, by simpa [World.setCell] using h.lt, (World.cell?_setCell_other _ _ _ _ (fun e => by cases e)).trans h.c0, (World.cell?_setCell_other _ _ _ _ (fun e => by cases e)).trans h.c1, (World.cell?_setCell_other _ _ _ _ (fun e => by cases e)).trans h.c2, World.cell?_setCell_same _ _ _ h.c3, (World.cell?_setCell_other _ _ _ _ (fun e => by cases e)).trans h.c4, (World.cell?_setCell_other _ _ _ _ (fun e => by cases e)).trans h.c5, (frozen_set _ _ _ _).trans h.f3, (frozen_set _ _ _ _).trans h.f4, h.b1, h.b2, h.hW, (World.cell?_setCell_other _ _ _ _ (fun e => by cases e)).trans h.sp, by simpa [World.setCell] using h.spl, h.spn, h.b3⟩
theorem ChkAt.setCount {W A : World} {bc sx N K : Nat} {v0 v1 v2 vt : Value} {vs : List Value} {t : List (List Bool)} (h : ChkAt W A bc sx v0 v1 v2 vt vs N K t) (M : Nat) : ChkAt W (A.setCell ⟨bc, 4, none⟩ (.int .i64 M)) bc sx v0 v1 v2 vt vs N M t := by
  obtain ⟨y, rfl, ht⟩ := h.tab
  obtain ⟨z, hz⟩ := y.setO h.hW 4 (.int .i64 M)
  have hg : y.w.grownBy z.w (some bc) := hz ▸ ⟨rfl, rfl, rfl, by simp [World.setCell], fun k _ hk => set_block (fun e => hk (by rw [e]))⟩
  exact ⟨⟨z, hz, ht.kept hg (fun e => by have := h.b1 bc e; omega) (fun i q hq e => by have := h.b2 i q bc hq e; omega)⟩, by simpa [World.setCell] using h.lt, (World.cell?_setCell_other _ _ _ _ (fun e => by cases e)).trans h.c0, (World.cell?_setCell_other _ _ _ _ (fun e => by cases e)).trans h.c1, (World.cell?_setCell_other _ _ _ _ (fun e => by cases e)).trans h.c2, (World.cell?_setCell_other _ _ _ _ (fun e => by cases e)).trans h.c3, World.cell?_setCell_same _ _ _ h.c4, (World.cell?_setCell_other _ _ _ _ (fun e => by cases e)).trans h.c5, (frozen_set _ _ _ _).trans h.f3, (frozen_set _ _ _ _).trans h.f4, h.b1, h.b2, h.hW, (World.cell?_setCell_other _ _ _ _ (fun e => by cases e)).trans h.sp, by simpa [World.setCell] using h.spl, h.spn, h.b3⟩
/-- a mark is set in the table -/
theorem ChkAt.mark {W A : World} {bc sx N K : Nat} {v0 v1 v2 vt : Value} {vs : List Value} {t : List (List Bool)} (h : ChkAt W A bc sx v0 v1 v2 vt vs N K t) {i : Nat} (hi : i < t.length) {k : Nat} (hk : k < (nth t i).length) :
    ∃ g c g' c', vt = .slice (some ⟨g, 0, none⟩) t.length c ∧ g < A.heap.size ∧ A.cell? ⟨g, i, none⟩ = some (.slice (some ⟨g', 0, none⟩) (nth t i).length c') ∧ g' < A.heap.size ∧ (∃ b, A.cell? ⟨g', k, none⟩ = some (.bool b)) ∧ A.frozen? ⟨g', k, none⟩ = false ∧ g' < bc ∧
      ChkAt W (A.setCell ⟨g', k, none⟩ (.bool true)) bc sx v0 v1 v2 vt vs N K (setTab t i k true) := by
  obtain ⟨y, rfl, ht⟩ := h.tab
  obtain ⟨g, c, u, hv, hg, hu, d0, hI, hrow⟩ := ht.at_ hi
  obtain ⟨g', c', rfl, hg', e0, e1, hset⟩ := hrow k hk
  obtain ⟨z, hz, ht'⟩ := hset true
  have hlt : g' < bc := h.b2 i _ g' hu rfl
  have hne : ∀ o, (⟨g', k, none⟩ : Addr) ≠ ⟨bc, o, none⟩ := fun o e => by cases e; omega
  refine ⟨g, c, g', c', hv, hg, d0, hg', ⟨_, e0⟩, e1, hlt, ⟨z, hz, ht'⟩, by simpa [World.setCell] using h.lt, ?_, ?_, ?_, ?_, ?_, ?_, (frozen_set _ _ _ _).trans h.f3, (frozen_set _ _ _ _).trans h.f4, h.b1, h.b2, h.hW, (World.cell?_setCell_other _ _ _ _ (fun e => by cases e; exact h.b3 i _ _ hu rfl rfl)).trans h.sp, by simpa [World.setCell] using h.spl, h.spn, h.b3⟩
  · exact (World.cell?_setCell_other _ _ _ _ (hne 0)).trans h.c0
  · exact (World.cell?_setCell_other _ _ _ _ (hne 1)).trans h.c1
  · exact (World.cell?_setCell_other _ _ _ _ (hne 2)).trans h.c2
  · exact (World.cell?_setCell_other _ _ _ _ (hne 3)).trans h.c3
  · exact (World.cell?_setCell_other _ _ _ _ (hne 4)).trans h.c4
  · exact (World.cell?_setCell_other _ _ _ _ (hne 5)).trans h.c5
end Go.Proofs.Ytmpkbolabdmkkaa
