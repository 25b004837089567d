/- The library's slices at this program: Clone and Compact of ints. -/
import Derived.Test.YtmpkbolabdmkkaaBas3
import Derived.Shelf.SlicesE.Compact
import Derived.Ground.SlgnProg
namespace Go.Proofs.Ytmpkbolabdmkkaa
open Go.Shelf
shelf_lay_g SlLaysE.n43 Slgn 43 at Try 99 as Try.compactI
end Go.Proofs.Ytmpkbolabdmkkaa
namespace Go.Proofs.Ytmpkbolabdmkkaa
open Go.RowKit

theorem below_putRow {α : Type} [Inhabited α] (enc : α → Value) {B : Nat} {a w : World} (h : Below B a w) {blk : Nat} (hB : B ≤ blk) (q off : Nat) (d : Array α) : Below B a (Sort.putRow enc (Sort.ahead w q) blk off d) :=
  ⟨h.os, h.tape, h.output, by rw [Sort.size_putRow]; exact h.size, fun k hk => by
    rw [← h.block k hk]
    show (w.heap.modify blk _)[k]? = _
    rw [Array.getElem?_modify, if_neg (by omega)]⟩

set_option maxRecDepth 100000 in
set_option maxHeartbeats 1000000 in
theorem pcloneI {W : World} (x : Later W) (v : Value) (l : List Int) (h : IsInts W v l) : Calls Try.prog 68 #[v] x.w (EndsOwn W l) := by
  obtain ⟨a, c, rfl, ll, h⟩ := h.opened
  have q22 : ∀ (w : World) (a : Option Addr) (n c n' c' : Nat), (binOp .eql 22 (.slice a n c) (.slice none n' c')).run Try.prog w = .ok (.bool a.isNone) w := fun w a n c n' c' => Lib.run_eql_slice_nil w _ _ a n c n' c' Try.underlying22
  cases a with
  | none =>
    obtain rfl : l = [] := by
      cases l with
      | nil => rfl
      | cons y t => obtain ⟨_, _, he, _⟩ := h.out 0 (by simp); cases he
    go_enter Try.func68, Try.ntmps68
    go_wp2
    go_ret; exact ⟨_, rfl, x, rfl, World.ownsRow_nil _ _ _ _⟩
  | some a =>
    go_enter Try.func68, Try.ntmps68
    obtain ⟨z, hz, hown⟩ := owns_empty x 3 1
    go_wp2_with (at_builtin; refine wpList_appN z 22 3 _ 1 8 Try.info3 rfl (by decide) Try.underlying22 rfl _ _ rfl _ _ _ (by rfl) hown (some a) l.length c (l.map (Value.int .i64)) (by rfl) (by simp) (ints_cells h.out z) (ints_one l) (by omega) (by omega) ?_; intro v' x hown' _; obtain ⟨A', c', rfl⟩ := owns_slice hown')
    clear hz hown
    simp only [Nat.zero_add, List.nil_append] at hown' ⊢
    go_ret; exact ⟨_, rfl, x, rfl, hown'⟩
/-- runs of equal elements made one -/
def compL (l : List Int) : List Int := Lib.compactUpTo l.toArray l.toArray.size

set_option maxRecDepth 100000 in
set_option maxHeartbeats 1000000 in
theorem pcompact {W : World} (x : Later W) (v : Value) (l : List Int) (hown : x.w.ownsRow W.heap.size 3 1 v l.length (l.map (Value.int .i64))) (hn : l.length ≤ 17592186044416) :
    Calls Try.prog 99 #[v] x.w (EndsInts W (compL l)) := by
  have hI := isInts_of_owns hown hn
  by_cases h2 : l.length < 2
  · obtain ⟨a, c, rfl⟩ := owns_slice hown
    have he : compL l = l := by
      match l, h2 with
      | [], _ => rfl
      | [y], _ => rfl
    go_enter Try.func99, Try.ntmps99
    go_wp2
    go_ret; exact ⟨_, rfl, x, rfl, by rw [he]; exact hI⟩
  · obtain ⟨g, c, rfl, hge, hlt⟩ := owns_head hown (by omega)
    have hH : Sort.Holds (Value.int .i64) x.w g 0 l.toArray := fun j hj => by
      have hj' : j < l.length := by simpa using hj
      obtain ⟨h1, h3, _⟩ := owns_at x hown j hj'
      refine ⟨?_, by rw [Nat.zero_add]; exact h3⟩
      rw [Nat.zero_add, h1]; simp [hj']
    have hcap : l.toArray.size ≤ c := by
      rcases hown.2 with ⟨h, _⟩ | ⟨g', cap, cur, he, h⟩
      · cases h
      · cases he; simpa using h.2.2.1
    have hle : (compL l).length ≤ l.length := by
      unfold compL Lib.compactUpTo; simp; exact Nat.le_trans (List.length_filter_le _ _) (by simp)
    have hsz : (compL l ++ List.replicate (l.toArray.size - (compL l).length) 0).toArray.size = l.toArray.size := by simp; omega
    refine (AnyE.slices_Compact Try.compactI (Value.int .i64) (fun _ => rfl) (EqlAt.intD _ _ .i64) (NeqAt.intD _ _ .i64) 0 Try.zeroValue3 g 0 c l.toArray x.w hH (by simp; omega) hcap).mono ?_
    rintro e w' ⟨rfl, q, rfl⟩
    refine ⟨_, rfl, ⟨_, below_putRow (Value.int .i64) x.h hge q 0 (compL l ++ List.replicate (l.toArray.size - (compL l).length) 0).toArray⟩, rfl, ?_⟩
    refine ⟨_, _, rfl, by omega, fun i hi => ⟨g, 0, rfl, ?_, ?_⟩⟩
    · show g < (Sort.putRow _ _ _ _ _).heap.size; rw [Sort.size_putRow]; exact hlt
    · refine (Sort.cell?_putRow (Value.int .i64) (Sort.ahead x.w q) g 0 l.toArray _ hH hsz i ?_).trans ?_
      · rw [hsz]; simp; omega
      · rw [nth_eq (compL l) i hi]; simp; rw [List.getElem?_append_left hi, List.getElem?_eq_getElem hi]; rfl
end Go.Proofs.Ytmpkbolabdmkkaa
