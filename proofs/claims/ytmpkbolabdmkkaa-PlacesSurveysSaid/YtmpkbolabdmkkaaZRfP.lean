/- THE WORLDS in which the reference's proves runs. -/
import Derived.Test.YtmpkbolabdmkkaaZSuL
import Derived.Test.YtmpkbolabdmkkaaZApd
import Derived.Test.YtmpkbolabdmkkaaZq
import Derived.Test.YtmpkbolabdmkkaaZc
namespace Go.Proofs.Ytmpkbolabdmkkaa
open Go.RowKit

/-- the table of what is possible, below block B -/
structure PvAt (W A : World) (B : Nat) (vt : Value) (vs : List Value) (t : List (List Bool)) : Prop where
  tab : ∃ y : Later W, A = y.w ∧ OwnTab y vt t vs
  b2 : ∀ (i : Nat) (q : Value) (b : Nat), vs[i]? = some q → q.ownBlock = some b → b < B
  hB : B ≤ A.heap.size
/-- what lies from B on lies as it lay -/
structure Kep (B : Nat) (A C : World) : Prop where
  size : A.heap.size ≤ C.heap.size
  block : ∀ k, k < A.heap.size → B ≤ k → C.heap[k]? = A.heap[k]?
theorem Kep.refl (B : Nat) (A : World) : Kep B A A := ⟨Nat.le_refl _, fun _ _ _ => rfl⟩
theorem Kep.trans {B : Nat} {A C D : World} (h : Kep B A C) (h' : Kep B C D) : Kep B A D := ⟨Nat.le_trans h.size h'.size, fun k hk hb => (h'.block k (Nat.lt_of_lt_of_le hk h.size) hb).trans (h.block k hk hb)⟩
theorem Kep.below {B : Nat} {A C : World} (h : Below A.heap.size A C) : Kep B A C := ⟨h.size, fun k hk _ => h.block k hk⟩
theorem Kep.set {B : Nat} {A : World} {b : Nat} (hb : b < B) (o : Nat) (v : Value) : Kep B A (A.setCell ⟨b, o, none⟩ v) := ⟨by simp [World.setCell], fun _ _ hk => set_block (by omega)⟩
theorem Kep.cell {B : Nat} {A C : World} (h : Kep B A C) {b o : Nat} {u : Value} (hb : B ≤ b) (hc : A.cell? ⟨b, o, none⟩ = some u) : C.cell? ⟨b, o, none⟩ = some u :=
  (World.cell?_of_block (a := ⟨b, o, none⟩) (h.block b (block_lt_of_cell hc) hb)).trans hc
theorem Kep.ints {B : Nat} {A C : World} (h : Kep B A C) {v : Value} {l : List Int} (hf : IsInts (wout (fun q => decide (q < B)) A) v l) : IsInts (wout (fun q => decide (q < B)) C) v l :=
  hf.cov (cov_out h.size fun q hq hP => ⟨hP, h.block q hq (by simpa using hP)⟩)
theorem PvAt.below {W A C : World} {B : Nat} {vt : Value} {vs : List Value} {t : List (List Bool)} (h : PvAt W A B vt vs t) (hb : Below A.heap.size A C) : PvAt W C B vt vs t := by
  obtain ⟨y, rfl, ht⟩ := h.tab
  exact ⟨⟨⟨C, y.h.trans (hb.mono y.h.size)⟩, rfl, ht.later hb⟩, h.b2, Nat.le_trans h.hB hb.size⟩
theorem PvAt.later {W A : World} {B : Nat} {vt : Value} {vs : List Value} {t : List (List Bool)} (h : PvAt W A B vt vs t) : Below W.heap.size W A := let ⟨y, e, _⟩ := h.tab; e ▸ y.h
theorem PvAt.mark {W A : World} {B : Nat} {vt : Value} {vs : List Value} {t : List (List Bool)} (h : PvAt W A B vt vs t) {i : Nat} (hi : i < t.length) {k : Nat} (hk : k < (nth t i).length) :
    ∃ g c g' c', vt = .slice (some ⟨g, 0, none⟩) t.length c ∧ g < A.heap.size ∧ A.cell? ⟨g, i, none⟩ = some (.slice (some ⟨g', 0, none⟩) (nth t i).length c') ∧ g' < A.heap.size ∧ (∃ b, A.cell? ⟨g', k, none⟩ = some (.bool b)) ∧ A.frozen? ⟨g', k, none⟩ = false ∧ g' < B ∧
      PvAt W (A.setCell ⟨g', k, none⟩ (.bool true)) B vt vs (setTab t i k true) := by
  obtain ⟨y, rfl, ht⟩ := h.tab
  obtain ⟨g, c, u, hv, hg, hu, d0, hI, hrow⟩ := ht.at_ hi
  obtain ⟨g', c', rfl, hg', e0, e1, hset⟩ := hrow k hk
  obtain ⟨z, hz, ht'⟩ := hset true
  have hlt : g' < B := h.b2 i _ g' hu rfl
  exact ⟨g, c, g', c', hv, hg, d0, hg', ⟨_, e0⟩, e1, hlt, ⟨z, hz, ht'⟩, h.b2, by simpa [World.setCell] using h.hB⟩
/-- HOW proves ENDS -/
def PvEnd (W A : World) (B : Nat) (vt : Value) (vs : List Value) (t : List (List Bool)) (p : Prob) (n : Nd) (c : List Int) (e : Ending) (w' : World) : Prop :=
  (okN p n c = true ∧ e = .returned (.tuple #[.int .i64 ((agN n c).length : Nat), .bool true]) ∧ PvAt W w' B vt vs (markAll t (agN n c)) ∧ Kep B A w') ∨
  (okN p n c = false ∧ e = .returned (.tuple #[.int .i64 0, .bool false]) ∧ (∃ y : Later W, w' = y.w) ∧ Kep B A w')
def PvNode (W : World) (p : Prob) (B : Nat) (v0 v1 v2 vt : Value) (vs : List Value) (n : Nd) : Prop := ∀ (A : World) (k vf : Value) (t : List (List Bool)) (c : List Int), PvAt W A B vt vs t → IsNd W k n → IsInts (wout (fun q => decide (q < B)) A) vf c →
  t.length = p.opts.length → (∀ i, (nth t i).length = (nth p.opts i).length) → c.length ≤ p.opts.length → (∀ i, i < c.length → 0 ≤ nth c i ∧ nth c i < (nth p.opts i).length) → szN n ≤ 200000 →
  Calls Try.prog 123 #[.agg #[v0, v1, v2], .agg #[.int .i64 n.kind, .int .i64 n.index, k], vf, vt] A (PvEnd W A B vt vs t p n c)
end Go.Proofs.Ytmpkbolabdmkkaa
