/- CONTRACTS of the library's Mul and Repeat. -/
import Derived.Test.YtmpkbolabdmkkaaZPlS
import Derived.Laws.CopyOwn
namespace Go.Proofs.Ytmpkbolabdmkkaa
open Go.RowKit

set_option maxRecDepth 100000 in
set_option maxHeartbeats 1000000 in
theorem pmul64 (n : Nat) (hn : n ≤ 65536) (w : World) : Calls Try.prog 171 #[.int .u64 1, .int .u64 n] w fun e w' => e = .returned (.tuple #[.int .u64 0, .int .u64 n]) ∧ w = w' := by
  have e1 : bits .and .u64 (n : Int) 4294967295 = (n : Int) := by
    have h := u64_and_nat n 4294967295 (by omega) (by decide)
    rw [show n &&& 4294967295 = n by rw [show (4294967295 : Nat) = 2 ^ 32 - 1 by decide, Nat.and_two_pow_sub_one_eq_mod]; omega] at h
    exact h
  have e2 : bits .and .u64 1 4294967295 = 1 := by decide
  have e3 : bits .and .u64 0 4294967295 = 0 := by decide
  have e4 : (n : Int) / 4294967296 = 0 := by omega
  go_enter Try.func171, Try.ntmps171
  go_wp2
  go_ret2
  exact ⟨rfl, rfl⟩

set_option maxHeartbeats 1000000 in
theorem pmul (n : Nat) (hn : n ≤ 65536) (w : World) : Calls Try.prog 166 #[.int .u64 1, .int .u64 n] w fun e w' => e = .returned (.tuple #[.int .u64 0, .int .u64 n]) ∧ w = w' := by
  go_enter Try.func166, Try.ntmps166
  go_wp2_with (go_at_call 171; refine (pmul64 n hn _).mono ?_; rintro e w' ⟨rfl, rfl⟩)
  go_ret2
  exact ⟨rfl, rfl⟩

/-- 'make([]bool, n)', run: the block as it lies -/
theorem makeBools_block (n : Nat) (hn : n ≤ 65536) (w : World) : (Instr.makeSlice 52 (.int .i64 n) (.int .i64 n)).run Try.prog w = .ok (.slice (some ⟨w.heap.size, 0, none⟩) n n) (w.alloc (.cells ((List.replicate n false).map Value.bool).toArray 4)) := by
  obtain ⟨i0, hi, hz0, hz1, hz2⟩ := info_parts Try.info4
  have := run_make (P := Try.prog) w 52 4 i0 _ Try.underlying52 hi hz0 .i64 .i64 n n (by omega) (by omega) (by rw [hz2]; omega) (by omega)
  have e : (madeCells (Value.bool false).cells n) = ((List.replicate n false).map Value.bool).toArray := by
    apply Array.toList_inj.1
    rw [List.map_replicate]; exact toList_madeCells_one _ _
  rw [← e]
  simpa [hz1] using this

/-- the row while it is filled -/
def repRow (b : Bool) (n k : Nat) : List Value := (List.replicate k b ++ List.replicate (n - k) false).map Value.bool
theorem repRow_len {b : Bool} {n k : Nat} (hk : k ≤ n) : (repRow b n k).length = n := by simp [repRow]; omega
theorem repRow_splice {b : Bool} {n k m : Nat} (hk : k + m ≤ n) : splice (repRow b n k) k ((List.replicate m b).map Value.bool) = repRow b n (k + m) := by
  unfold splice repRow
  rw [← List.map_take, List.length_map, List.length_replicate, ← List.map_drop, ← List.map_append, ← List.map_append]
  congr 1
  rw [List.take_left' (by simp), List.drop_append, List.drop_eq_nil_of_le (by simp), List.drop_replicate, List.length_replicate, List.nil_append, ← List.append_assoc, List.replicate_append_replicate]
  congr 2; omega
theorem repRow_at {b : Bool} {n k j : Nat} {w : World} {g : Nat} {t : TypeId} (hg : w.heap[g]? = some (.cells (repRow b n k).toArray t (0, 0))) (hj : j < k) : w.cell? ⟨g, j, none⟩ = some (.bool b) := by
  simp [World.cell?, hg, repRow, List.getElem?_append, hj]
theorem repRow_own {b : Bool} {n : Nat} {W w : World} {g : Nat} (hWg : W.heap.size ≤ g) (hg : w.heap[g]? = some (.cells (repRow b n n).toArray 4 (0, 0))) (hn : n ≤ 65536) :
    w.ownsRow W.heap.size 4 1 (.slice (some ⟨g, 0, none⟩) n n) n ((List.replicate n b).map Value.bool) := by
  exact ⟨by simp, .inr ⟨g, n, _, rfl, hWg, hg, Nat.le_refl _, by unfold maxLen; omega, by simp [repRow], by simp [repRow]⟩⟩

set_option maxRecDepth 100000 in
set_option maxHeartbeats 1000000 in
theorem prepeat {W : World} (x : Later W) (v : Value) (b : Bool) (n : Nat) (h : IsBools W v [b]) (h1 : 1 ≤ n) (hn : n ≤ 65536) :
    Calls Try.prog 143 #[v, .int .i64 n] x.w fun e w' => ∃ g, e = .returned (.slice (some ⟨g, 0, none⟩) n n) ∧ ∃ y : Later W, w' = y.w ∧ y.w.ownsRow W.heap.size 4 1 (.slice (some ⟨g, 0, none⟩) n n) n ((List.replicate n b).map Value.bool) := by
  obtain ⟨a, c, rfl, _, hI⟩ := h.opened
  obtain ⟨g0, o0, rfl, hs0, c0⟩ := hI.out 0 (by simp)
  clear h
  have hmk := makeBools_block n hn
  have hsrc := Lib.hid c0
  clear c0
  have hbW := Below.alloc x.h x.h.size (.cells ((List.replicate n false).map Value.bool).toArray 4)
  have hg1 : Hid ((x.w.alloc (.cells (List.replicate n (Value.bool false)).toArray 4)).heap[x.w.heap.size]? = some (.cells (List.replicate n (Value.bool false)).toArray 4 (0, 0))) := Lib.hid (World.alloc_heap_new _ _)
  have hrep : (List.replicate n (Value.bool false)) = repRow b n 0 := by simp [repRow]
  replace hrep := Lib.hid hrep
  have hone : ([Value.bool b] : List Value) = (List.replicate 1 b).map Value.bool := rfl
  replace hone := Lib.hid hone
  have hmin : Hid ([Value.bool b].length = Nat.min 1 n) := Lib.hid (by show 1 = min 1 n; omega)
  have hfit : Hid (0 + [Value.bool b].length ≤ (List.replicate n (Value.bool false)).length) := Lib.hid (by simpa using h1)
  have hcell : Hid (∀ (ad : Addr), ad = ⟨g0, o0, none⟩ → ∀ (j : Nat) (v : Value), [Value.bool b][j]? = some v → (x.w.alloc (.cells (List.replicate n (Value.bool false)).toArray 4)).cell? (ad.add j) = some v) := Lib.hid (by
    rintro ad rfl j v hj
    obtain ⟨rfl, rfl⟩ : j = 0 ∧ v = .bool b := by
      cases j with
      | zero => simpa using hj.symm
      | succ j => simp at hj
    have hlt := hs0 x
    rw [Below.cell (below_alloc1 _ _) (by exact hlt)]
    simpa [Addr.add, nth] using hsrc.out x)
  go_enter Try.func143, Try.ntmps143
  go_upto_region 7 with ((go_at_call 166; refine (pmul n hn _).mono ?_; rintro e w' ⟨rfl, rfl⟩))
  go_upto_region 8 with ((refine wpList_copy_splice (o := ⟨some 33, _, _, _, _, _⟩) rfl (.tmp 31) (.tmp 32) 52 52 rfl 4 Try.underlying52 (by kernel_rfl) (some ⟨x.w.heap.size, 0, none⟩) (some ⟨g0, o0, none⟩) n n 1 c rfl rfl x.w.heap.size 0 (List.replicate n (Value.bool false)) 4 (by simpa using hg1.out) [Value.bool b] hmin.out (fun _ => ⟨rfl, _, rfl, by simpa using hcell.out _ rfl⟩) hfit.out (by simp [Value.oneCell']) W.heap.size W (by simpa using hbW) x.h.size ?_; intro w2 hg2 hb2))
  replace hg2 := hg2.out
  rw [hrep.out, hone.out, repRow_splice (by omega), Nat.zero_add] at hg2
  obtain ⟨g, hg⟩ : ∃ g, g = x.w.heap.size := ⟨_, rfl⟩
  have hWg : W.heap.size ≤ g := hg ▸ x.h.size
  rw [← hg] at hg2 ⊢
  clear hg hg1 hcell hbW hmk
  replace hg2 := Lib.hid hg2
  go_loopw [8] (fun i wr => ∃ k : Nat, 1 ≤ k ∧ k ≤ n ∧ i = .int .i64 k ∧ ∃ y : Later W, wr = y.w ∧ y.w.heap[g]? = some (.cells (repRow b n k).toArray 4 (0, 0))) (fun i _ => n - (intOf i).toNat)
  case atStart => exact ⟨1, Nat.le_refl _, h1, rfl, ⟨w2, hb2⟩, rfl, hg2.out⟩
  case round =>
    obtain ⟨k, hk1, hk, rfl, ⟨y, rfl, hgk⟩⟩ := hrel
    replace hgk := Lib.hid hgk
    by_cases hlt : k < n
    · obtain ⟨m, hm⟩ : ∃ m, m = min k (n - k) := ⟨_, rfl⟩
      have hlen : Hid (((List.replicate m b).map Value.bool).length = Nat.min k (n - k)) := Lib.hid (by rw [hm]; simp)
      have hm1 : 1 ≤ m := by omega
      have hm2 : k + m ≤ n := by omega
      replace hm := Lib.hid hm
      have hnk : (if n = k then some (⟨g, 0, none⟩ : Addr) else some ⟨g, k, none⟩) = some ⟨g, k, none⟩ := if_neg (by omega)
      replace hnk := Lib.hid hnk
      have hfitk : Hid (k + ((List.replicate m b).map Value.bool).length ≤ (repRow b n k).length) := Lib.hid (by rw [repRow_len hk]; simpa using hm2)
      have hcellk : Hid (∀ w' : World, w'.heap = y.w.heap → ∀ (j : Nat) (v : Value), ((List.replicate m b).map Value.bool)[j]? = some v → w'.cell? ((⟨g, 0, none⟩ : Addr).add j) = some v) := Lib.hid (by
        intro w' hw' j v hj
        have hjm : j < m := by have := (List.getElem?_eq_some_iff.1 hj).1; simpa using this
        have : v = .bool b := by simpa [hjm] using hj.symm
        subst this
        have h2 := repRow_at (w := w') (j := j) (by rw [hw']; exact hgk.out) (by have := hm.out; omega)
        rw [show (⟨g, 0, none⟩ : Addr).add j = ⟨g, j, none⟩ by unfold Addr.add; by_cases h0 : j = 0 <;> simp [h0]]
        exact h2)
      have hwr : IntKind.i64.wrap ((k : Int) + m) = (k : Int) + m := by rw [IntKind.wrap_i64]; omega
      go_wp2
      go_region_law (refine step_copy_splice rfl (.tmp 41) (.tmp 44) 52 52 rfl 4 Try.underlying52 (by kernel_rfl) (if n = k then some ⟨g, 0, none⟩ else some ⟨g, k, none⟩) (some ⟨g, 0, none⟩) (n - k) (n - k) k n (by simp [Act.eval, Act.put]) (by simp [Act.eval, Act.put]) g k (repRow b n k) 4 hgk.out ((List.replicate m b).map Value.bool) hlen.out (fun _ => ⟨hnk.out, _, rfl, hcellk.out _ rfl⟩) hfitk.out (by simp [Value.oneCell']) W.heap.size W (by first | exact y.h | exact Below.drew y.h) hWg ?_; intro w3 hg3 hb3)
      replace hg3 := hg3.out
      rw [repRow_splice hm2] at hg3
      replace hg3 := Lib.hid hg3
      go_wp2
      go_roundw
      case rel => exact ⟨k + m, by omega, hm2, by simp, ⟨w3, hb3⟩, rfl, hg3.out⟩
      case measure => simp [intOf]; omega
    · obtain rfl : k = n := by omega
      go_wp2
      go_ret
      exact ⟨_, rfl, y, rfl, repRow_own hWg hgk.out hn⟩
end Go.Proofs.Ytmpkbolabdmkkaa
