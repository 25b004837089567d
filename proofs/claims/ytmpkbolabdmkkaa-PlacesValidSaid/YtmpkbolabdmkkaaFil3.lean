/- TABLES AND FIRST ONES, as plain functions. -/
import Derived.Test.YtmpkbolabdmkkaaFil2
import Derived.Test.YtmpkbolabdmkkaaTab
namespace Go.Proofs.Ytmpkbolabdmkkaa
open Go.RowKit

/-- a table of b, a row a pane -/
def fullTo (p : Prob) (b : Bool) (k : Nat) : List (List Bool) := (p.opts.take k).map fun l => List.replicate l.length b
def fullTab (p : Prob) (b : Bool) : List (List Bool) := fullTo p b p.opts.length
theorem fullTo_len (p : Prob) (b : Bool) {k : Nat} (hk : k ≤ p.opts.length) : (fullTo p b k).length = k := by simp [fullTo]; omega
theorem fullTo_succ (p : Prob) (b : Bool) {k : Nat} (hk : k < p.opts.length) : fullTo p b (k + 1) = fullTo p b k ++ [List.replicate (nth p.opts k).length b] := by
  unfold fullTo; rw [take_snoc_nth _ k hk, List.map_append]; rfl
theorem nth_fullTo (p : Prob) (b : Bool) : ∀ {k : Nat}, k ≤ p.opts.length → ∀ {i : Nat}, i < k → nth (fullTo p b k) i = List.replicate (nth p.opts i).length b
  | 0, _, i, h => absurd h (Nat.not_lt_zero _)
  | k + 1, hk, i, h => by
    rw [fullTo_succ p b hk]
    rcases Nat.lt_succ_iff_lt_or_eq.1 h with h1 | rfl
    · rw [nth_append_left (by rw [fullTo_len p b (by omega)]; exact h1)]; exact nth_fullTo p b (by omega) h1
    · have := nth_snoc (fullTo p b i) (List.replicate (nth p.opts i).length b)
      rwa [fullTo_len p b (by omega)] at this

/-- t with the first k choices of f marked -/
def markTo (t : List (List Bool)) (f : List Int) : Nat → List (List Bool)
  | 0 => t
  | k + 1 => setTab (markTo t f k) k (nth f k).toNat true
/-- t with the choices of the first k lists marked -/
def marksTo (t : List (List Bool)) (l : List (List Int)) (n : Nat) : Nat → List (List Bool)
  | 0 => t
  | k + 1 => markTo (marksTo t l n k) (nth l k) n
theorem markTo_shape (t : List (List Bool)) (f : List Int) : ∀ k, (markTo t f k).length = t.length ∧ ∀ i, (nth (markTo t f k) i).length = (nth t i).length
  | 0 => ⟨rfl, fun _ => rfl⟩
  | k + 1 => by
    obtain ⟨h1, h2⟩ := markTo_shape t f k
    refine ⟨by unfold markTo; rw [setTab_len, h1], fun i => ?_⟩
    unfold markTo
    by_cases hi : i = k
    · subst hi
      by_cases hlt : i < (markTo t f i).length
      · rw [nth_setTab_same hlt, List.length_set, h2]
      · have e : nth (setTab (markTo t f i) i (nth f i).toNat true) i = nth (markTo t f i) i := by unfold setTab; rw [List.set_eq_of_length_le (by omega)]
        rw [e, h2]
    · rw [nth_setTab_other hi, h2]
theorem marksTo_shape (t : List (List Bool)) (l : List (List Int)) (n : Nat) : ∀ k, (marksTo t l n k).length = t.length ∧ ∀ i, (nth (marksTo t l n k) i).length = (nth t i).length
  | 0 => ⟨rfl, fun _ => rfl⟩
  | k + 1 => by
    obtain ⟨h1, h2⟩ := marksTo_shape t l n k
    obtain ⟨h3, h4⟩ := markTo_shape (marksTo t l n k) (nth l k) n
    exact ⟨h3.trans h1, fun i => (h4 i).trans (h2 i)⟩
/-- which options are possible -/
def possT (p : Prob) : List (List Bool) := marksTo (fullTab p false) (agr p) p.opts.length (agr p).length
def possL (p : Prob) : List (List Bool) := if largeE p = 0 then possT p else []

theorem OwnTab.down {W W1 : World} {y : Later W1} {v : Value} {t : List (List Bool)} {vs : List Value} (hb : Below W.heap.size W W1) (h : OwnTab y v t vs) : ∃ z : Later W, y.w = z.w ∧ OwnTab z v t vs := by
  obtain ⟨z, hz⟩ := y.down hb
  exact ⟨z, hz, ⟨hz ▸ owns_mono h.outer hb.size, h.len, fun i hi => let ⟨u, hu, hI⟩ := h.rows i hi; ⟨u, hu, hz ▸ owns_mono hI hb.size⟩, h.apart⟩⟩
theorem OwnTab.block {W : World} {y : Later W} {v : Value} {t : List (List Bool)} {vs : List Value} (h : OwnTab y v t vs) : ∀ (i : Nat) (q : Value) (b : Nat), vs[i]? = some q → q.ownBlock = some b → b < y.w.heap.size := by
  intro i q b hq hb
  have hi : i < t.length := by rw [← h.len]; exact (List.getElem?_eq_some_iff.1 hq).1
  obtain ⟨u, hu, hI⟩ := h.rows i hi
  rw [hq] at hu; cases hu
  exact (hI.lt b hb).2
theorem isBoolss_nil (w : World) : IsBoolss w (.slice none 0 0) [] := ⟨none, 0, rfl, by simp, fun _ h => absurd h (Nat.not_lt_zero _)⟩

/-- HOW A CALL ENDS that hands back a table of its own -/
def EndsTab (W : World) (t : List (List Bool)) (e : Ending) (w' : World) : Prop := ∃ v, e = .returned v ∧ ∃ y : Later W, w' = y.w ∧ ∃ vs, OwnTab y v t vs
def EndsTabE (W : World) (t : List (List Bool)) (n : Int) (e : Ending) (w' : World) : Prop := ∃ v, e = .returned (.tuple #[v, .int .i64 n]) ∧ ∃ y : Later W, w' = y.w ∧ IsBoolss y.w v t

end Go.Proofs.Ytmpkbolabdmkkaa
