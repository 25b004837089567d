/- TWO PARAMETERS laid in memory of their own. -/
import Derived.Test.YtmpkbolabdmkkaaBas2
namespace Go.Proofs.Ytmpkbolabdmkkaa
open Go.RowKit

theorem enter77 {W : World} (x : Later W) (u0 u1 u2 u3 u4 u5 u6 v0 v1 v2 v3 v4 v5 v6 : Value) (S T : TypeId) : ∃ (W1 : World) (x1 : Later W1), (x.w.alloc (.cells #[u0, u1, u2, u3, u4, u5, u6] S)).alloc (.cells #[v0, v1, v2, v3, v4, v5, v6] T) = x1.w ∧ Below W.heap.size W W1 ∧
    ((∀ y : Later W1, x.w.heap.size < y.w.heap.size) ∧ (∀ y : Later W1, x.w.heap.size + 1 < y.w.heap.size)) ∧
    ((∀ y : Later W1, y.w.cell? ⟨x.w.heap.size, 0, none⟩ = some u0) ∧ (∀ y : Later W1, y.w.cell? ⟨x.w.heap.size, 1, none⟩ = some u1) ∧ (∀ y : Later W1, y.w.cell? ⟨x.w.heap.size, 2, none⟩ = some u2) ∧ (∀ y : Later W1, y.w.cell? ⟨x.w.heap.size, 3, none⟩ = some u3) ∧ (∀ y : Later W1, y.w.cell? ⟨x.w.heap.size, 4, none⟩ = some u4) ∧ (∀ y : Later W1, y.w.cell? ⟨x.w.heap.size, 5, none⟩ = some u5) ∧ (∀ y : Later W1, y.w.cell? ⟨x.w.heap.size, 6, none⟩ = some u6)) ∧
    (∀ y : Later W1, y.w.cell? ⟨x.w.heap.size + 1, 0, none⟩ = some v0) ∧ (∀ y : Later W1, y.w.cell? ⟨x.w.heap.size + 1, 1, none⟩ = some v1) ∧ (∀ y : Later W1, y.w.cell? ⟨x.w.heap.size + 1, 2, none⟩ = some v2) ∧ (∀ y : Later W1, y.w.cell? ⟨x.w.heap.size + 1, 3, none⟩ = some v3) ∧ (∀ y : Later W1, y.w.cell? ⟨x.w.heap.size + 1, 4, none⟩ = some v4) ∧ (∀ y : Later W1, y.w.cell? ⟨x.w.heap.size + 1, 5, none⟩ = some v5) ∧ (∀ y : Later W1, y.w.cell? ⟨x.w.heap.size + 1, 6, none⟩ = some v6) := by
  have hs : x.w.heap.size < ((x.w.alloc (.cells #[u0, u1, u2, u3, u4, u5, u6] S)).alloc (.cells #[v0, v1, v2, v3, v4, v5, v6] T)).heap.size := by simp; omega
  have hs' : x.w.heap.size + 1 < ((x.w.alloc (.cells #[u0, u1, u2, u3, u4, u5, u6] S)).alloc (.cells #[v0, v1, v2, v3, v4, v5, v6] T)).heap.size := by simp
  have f1 : ∀ i, ((x.w.alloc (.cells #[u0, u1, u2, u3, u4, u5, u6] S)).alloc (.cells #[v0, v1, v2, v3, v4, v5, v6] T)).cell? ⟨x.w.heap.size, i, none⟩ = #[u0, u1, u2, u3, u4, u5, u6][i]? := fun i => (World.cell?_alloc_past _ _ i (by simp)).trans (World.cell?_alloc_at _ S _ i rfl)
  have f2 : ∀ i, ((x.w.alloc (.cells #[u0, u1, u2, u3, u4, u5, u6] S)).alloc (.cells #[v0, v1, v2, v3, v4, v5, v6] T)).cell? ⟨x.w.heap.size + 1, i, none⟩ = #[v0, v1, v2, v3, v4, v5, v6][i]? := fun i => World.cell?_alloc_at _ T _ i (by simp)
  exact ⟨_, Later.now _, rfl, (x.h.alloc x.h.size _).alloc (by have := x.h.size; simp; omega) _, ⟨Later.size hs, Later.size hs'⟩, ⟨Later.cell hs (f1 0), Later.cell hs (f1 1), Later.cell hs (f1 2), Later.cell hs (f1 3), Later.cell hs (f1 4), Later.cell hs (f1 5), Later.cell hs (f1 6)⟩, Later.cell hs' (f2 0), Later.cell hs' (f2 1), Later.cell hs' (f2 2), Later.cell hs' (f2 3), Later.cell hs' (f2 4), Later.cell hs' (f2 5), Later.cell hs' (f2 6)⟩

theorem enter33 {W : World} (x : Later W) (u0 u1 u2 v0 v1 v2 : Value) (S T : TypeId) : ∃ (W1 : World) (x1 : Later W1), (x.w.alloc (.cells #[u0, u1, u2] S)).alloc (.cells #[v0, v1, v2] T) = x1.w ∧ Below W.heap.size W W1 ∧
    ((∀ y : Later W1, x.w.heap.size < y.w.heap.size) ∧ (∀ y : Later W1, x.w.heap.size + 1 < y.w.heap.size)) ∧
    ((∀ y : Later W1, y.w.cell? ⟨x.w.heap.size, 0, none⟩ = some u0) ∧ (∀ y : Later W1, y.w.cell? ⟨x.w.heap.size, 1, none⟩ = some u1) ∧ (∀ y : Later W1, y.w.cell? ⟨x.w.heap.size, 2, none⟩ = some u2)) ∧
    (∀ y : Later W1, y.w.cell? ⟨x.w.heap.size + 1, 0, none⟩ = some v0) ∧ (∀ y : Later W1, y.w.cell? ⟨x.w.heap.size + 1, 1, none⟩ = some v1) ∧ (∀ y : Later W1, y.w.cell? ⟨x.w.heap.size + 1, 2, none⟩ = some v2) := by
  have hs : x.w.heap.size < ((x.w.alloc (.cells #[u0, u1, u2] S)).alloc (.cells #[v0, v1, v2] T)).heap.size := by simp; omega
  have hs' : x.w.heap.size + 1 < ((x.w.alloc (.cells #[u0, u1, u2] S)).alloc (.cells #[v0, v1, v2] T)).heap.size := by simp
  have f1 : ∀ i, ((x.w.alloc (.cells #[u0, u1, u2] S)).alloc (.cells #[v0, v1, v2] T)).cell? ⟨x.w.heap.size, i, none⟩ = #[u0, u1, u2][i]? := fun i => (World.cell?_alloc_past _ _ i (by simp)).trans (World.cell?_alloc_at _ S _ i rfl)
  have f2 : ∀ i, ((x.w.alloc (.cells #[u0, u1, u2] S)).alloc (.cells #[v0, v1, v2] T)).cell? ⟨x.w.heap.size + 1, i, none⟩ = #[v0, v1, v2][i]? := fun i => World.cell?_alloc_at _ T _ i (by simp)
  exact ⟨_, Later.now _, rfl, (x.h.alloc x.h.size _).alloc (by have := x.h.size; simp; omega) _, ⟨Later.size hs, Later.size hs'⟩, ⟨Later.cell hs (f1 0), Later.cell hs (f1 1), Later.cell hs (f1 2)⟩, Later.cell hs' (f2 0), Later.cell hs' (f2 1), Later.cell hs' (f2 2)⟩

theorem enter44 {W : World} (x : Later W) (u0 u1 u2 u3 v0 v1 v2 v3 : Value) (S T : TypeId) : ∃ (W1 : World) (x1 : Later W1), (x.w.alloc (.cells #[u0, u1, u2, u3] S)).alloc (.cells #[v0, v1, v2, v3] T) = x1.w ∧ Below W.heap.size W W1 ∧
    ((∀ y : Later W1, x.w.heap.size < y.w.heap.size) ∧ (∀ y : Later W1, x.w.heap.size + 1 < y.w.heap.size)) ∧
    ((∀ y : Later W1, y.w.cell? ⟨x.w.heap.size, 0, none⟩ = some u0) ∧ (∀ y : Later W1, y.w.cell? ⟨x.w.heap.size, 1, none⟩ = some u1) ∧ (∀ y : Later W1, y.w.cell? ⟨x.w.heap.size, 2, none⟩ = some u2) ∧ (∀ y : Later W1, y.w.cell? ⟨x.w.heap.size, 3, none⟩ = some u3)) ∧
    (∀ y : Later W1, y.w.cell? ⟨x.w.heap.size + 1, 0, none⟩ = some v0) ∧ (∀ y : Later W1, y.w.cell? ⟨x.w.heap.size + 1, 1, none⟩ = some v1) ∧ (∀ y : Later W1, y.w.cell? ⟨x.w.heap.size + 1, 2, none⟩ = some v2) ∧ (∀ y : Later W1, y.w.cell? ⟨x.w.heap.size + 1, 3, none⟩ = some v3) := by
  have hs : x.w.heap.size < ((x.w.alloc (.cells #[u0, u1, u2, u3] S)).alloc (.cells #[v0, v1, v2, v3] T)).heap.size := by simp; omega
  have hs' : x.w.heap.size + 1 < ((x.w.alloc (.cells #[u0, u1, u2, u3] S)).alloc (.cells #[v0, v1, v2, v3] T)).heap.size := by simp
  have f1 : ∀ i, ((x.w.alloc (.cells #[u0, u1, u2, u3] S)).alloc (.cells #[v0, v1, v2, v3] T)).cell? ⟨x.w.heap.size, i, none⟩ = #[u0, u1, u2, u3][i]? := fun i => (World.cell?_alloc_past _ _ i (by simp)).trans (World.cell?_alloc_at _ S _ i rfl)
  have f2 : ∀ i, ((x.w.alloc (.cells #[u0, u1, u2, u3] S)).alloc (.cells #[v0, v1, v2, v3] T)).cell? ⟨x.w.heap.size + 1, i, none⟩ = #[v0, v1, v2, v3][i]? := fun i => World.cell?_alloc_at _ T _ i (by simp)
  exact ⟨_, Later.now _, rfl, (x.h.alloc x.h.size _).alloc (by have := x.h.size; simp; omega) _, ⟨Later.size hs, Later.size hs'⟩, ⟨Later.cell hs (f1 0), Later.cell hs (f1 1), Later.cell hs (f1 2), Later.cell hs (f1 3)⟩, Later.cell hs' (f2 0), Later.cell hs' (f2 1), Later.cell hs' (f2 2), Later.cell hs' (f2 3)⟩

end Go.Proofs.Ytmpkbolabdmkkaa
