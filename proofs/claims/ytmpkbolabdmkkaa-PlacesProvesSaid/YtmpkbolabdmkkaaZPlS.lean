/- CONTRACTS of the library's OnesCount, Index and Compare; of what a set of items lists. -/
import Derived.Test.YtmpkbolabdmkkaaZj
import Derived.Test.YtmpkbolabdmkkaaZBit
namespace Go.Proofs.Ytmpkbolabdmkkaa
open Go.RowKit

set_option maxRecDepth 100000 in
set_option maxHeartbeats 1000000 in
theorem ponesU (x : Nat) (hx : x < 65536) (w : World) : Calls Try.prog 158 #[.int .u64 x] w fun e w' => e = .returned (.int .i64 (ones64 x)) ∧ w = w' := by
  obtain ⟨a1, ha1⟩ : ∃ a, a = x / 2 &&& 6148914691236517205 := ⟨_, rfl⟩
  obtain ⟨b1, hb1⟩ : ∃ a, a = x &&& 6148914691236517205 := ⟨_, rfl⟩
  have la1 : a1 ≤ x / 2 := ha1 ▸ Nat.and_le_left
  have lb1 : b1 ≤ x := hb1 ▸ Nat.and_le_left
  have ea1 : bits .and .u64 ((x : Int) / 2) 6148914691236517205 = (a1 : Int) := by rw [ha1]; exact u64_and_nat (x / 2) _ (by omega) (by decide)
  have eb1 : bits .and .u64 (x : Int) 6148914691236517205 = (b1 : Int) := by rw [hb1]; exact u64_and_nat x _ (by omega) (by decide)
  obtain ⟨a2, ha2⟩ : ∃ a, a = (a1 + b1) / 4 &&& 3689348814741910323 := ⟨_, rfl⟩
  obtain ⟨b2, hb2⟩ : ∃ a, a = (a1 + b1) &&& 3689348814741910323 := ⟨_, rfl⟩
  have la2 : a2 ≤ (a1 + b1) / 4 := ha2 ▸ Nat.and_le_left
  have lb2 : b2 ≤ a1 + b1 := hb2 ▸ Nat.and_le_left
  have ea2 : bits .and .u64 (((a1 : Int) + b1) / 4) 3689348814741910323 = (a2 : Int) := by rw [ha2]; exact u64_and_nat ((a1 + b1) / 4) _ (by omega) (by decide)
  have eb2 : bits .and .u64 ((a1 : Int) + b1) 3689348814741910323 = (b2 : Int) := by rw [hb2]; exact u64_and_nat (a1 + b1) _ (by omega) (by decide)
  obtain ⟨a3, ha3⟩ : ∃ a, a = ((a2 + b2) / 16 + (a2 + b2)) &&& 1085102592571150095 := ⟨_, rfl⟩
  have la3 : a3 ≤ (a2 + b2) / 16 + (a2 + b2) := ha3 ▸ Nat.and_le_left
  have ea3 : bits .and .u64 (((a2 : Int) + b2) / 16 + (a2 + b2)) 1085102592571150095 = (a3 : Int) := by rw [ha3]; exact u64_and_nat ((a2 + b2) / 16 + (a2 + b2)) _ (by omega) (by decide)
  have e7 := i64_and127
  have hres : Hid (ones64 x = (((a3 / 256 + a3) / 65536 + (a3 / 256 + a3)) / 4294967296 + ((a3 / 256 + a3) / 65536 + (a3 / 256 + a3))) % 128) := Lib.hid (by rw [ha3, ha2, hb2, ha1, hb1]; rfl)
  clear ha1 hb1 ha2 hb2 ha3
  go_enter Try.func158, Try.ntmps158
  go_wp2
  go_ret
  exact ⟨ret_int (by rw [hres.out]; omega), rfl⟩

set_option maxHeartbeats 1000000 in
theorem pones (x : Nat) (hx : x < 65536) (w : World) : Calls Try.prog 129 #[.int .u64 x] w fun e w' => e = .returned (.int .i64 (ones64 x)) ∧ w = w' := by
  go_enter Try.func129, Try.ntmps129
  go_wp2_with (go_at_call 158; refine (ponesU x hx _).mono ?_; rintro e w' ⟨rfl, rfl⟩)
  go_ret
  exact ⟨rfl, rfl⟩

/-- where a number first stands in a list; -1: nowhere -/
def idxL (l : List Int) (a : Int) : Int := if a ∈ l then (l.idxOf a : Nat) else -1
theorem idxL_at {l : List Int} {a : Int} {k : Nat} (hk : k < l.length) (h : nth l k = a) (hn : ∀ i, i < k → nth l i ≠ a) : idxL l a = k := by
  have hm : a ∈ l := by rw [← h]; exact nth_mem hk
  unfold idxL
  rw [if_pos hm]
  congr 1
  have hlt := List.idxOf_lt_length_iff.2 hm
  have hg : nth l (l.idxOf a) = a := by rw [nth_eq _ _ hlt]; exact List.getElem_idxOf hlt
  rcases Nat.lt_trichotomy (l.idxOf a) k with h1 | h1 | h1
  · exact absurd hg (hn _ h1)
  · exact h1
  · have : k < l.idxOf a := h1
    have h2 := List.not_of_lt_findIdx this
    rw [nth_eq _ _ hk] at h
    simp [h] at h2
theorem idxL_none {l : List Int} {a : Int} (hn : ∀ i, i < l.length → nth l i ≠ a) : idxL l a = -1 := by
  unfold idxL
  rw [if_neg]
  intro hm
  obtain ⟨i, hi, rfl⟩ := List.getElem_of_mem hm
  exact hn i hi (nth_eq l i hi)

set_option maxRecDepth 100000 in
set_option maxHeartbeats 1000000 in
theorem pindexI {W : World} (x : Later W) (v : Value) (l : List Int) (a : Int) (h : IsInts W v l) : Calls Try.prog 126 #[v, .int .i64 a] x.w (Ends W (.int .i64 (idxL l a))) := by
  obtain ⟨A, c, rfl, ll, hI⟩ := h.opened
  clear h
  have hat := Lib.hid (fun k => @idxL_at l a k)
  have hno := Lib.hid (@idxL_none l a)
  go_enter Try.func126, Try.ntmps126
  go_wp2
  go_loopw [8] (fun i wr => ∃ k : Nat, k ≤ l.length ∧ i = .int .i64 k ∧ (∃ y : Later W, wr = y.w) ∧ (∀ i, i < k → nth l i ≠ a)) (fun i _ => l.length - (intOf i).toNat)
  case atStart => exact ⟨0, Nat.zero_le _, rfl, ⟨x, rfl⟩, by omega⟩
  case round =>
    obtain ⟨k, hk, rfl, ⟨x, rfl⟩, hz⟩ := hrel
    replace hz := Lib.hid hz
    by_cases hlt : k < l.length
    · obtain ⟨b, o, rfl, hb, c0⟩ := hI.out k hlt
      cases hA : (a == nth l k)
      · go_wp2
        go_roundw
        case rel => exact ⟨k + 1, by omega, by go_num, ⟨x, rfl⟩, all_step hz.out (fun e => ne_beqI hA e.symm)⟩
        case measure => simp [intOf]; omega
      · go_wp2
        go_ret
        exact ⟨ret_int (hat.out k hlt (eq_beqI hA).symm hz.out).symm, x, rfl⟩
    · obtain rfl : k = l.length := by omega
      go_wp2
      go_ret
      exact ⟨ret_int (hno.out hz.out).symm, x, rfl⟩

theorem cmpI_0 {a b : Int} (h : cmpI a b = 0) : a = b := by
  unfold cmpI at h
  by_cases h1 : a < b
  · rw [if_pos h1] at h; cases h
  · rw [if_neg h1] at h
    by_cases h2 : b < a
    · rw [if_pos h2] at h; cases h
    · omega
theorem cmpI_ne {a b : Int} (h : cmpI a b ≠ 0) : decide (cmpI a b < 0) = decide (a < b) ∧ a ≠ b := by
  unfold cmpI at h ⊢
  by_cases h1 : a < b
  · rw [if_pos h1]; simp [h1]; omega
  · rw [if_neg h1] at h ⊢
    by_cases h2 : b < a
    · rw [if_pos h2]; simp [h1]; omega
    · rw [if_neg h2] at h; exact absurd rfl h

/-- one bit of a number, as the program looks at it -/
theorem bit_at {s : Nat} (hs : s < 65536) (k : Nat) : bits .and .i64 ((s : Int) / 2 ^ k) 1 = if s.testBit k = true then 1 else 0 := by
  have e : ((s / 2 ^ k : Nat) : Int) = (s : Int) / 2 ^ k := by simp
  have hle : s / 2 ^ k ≤ s := Nat.div_le_self _ _
  rw [← e]
  refine (i64_and_nat (s / 2 ^ k) 1 (by omega) (by decide)).trans ?_
  rw [Nat.and_one_is_mod, Nat.testBit_eq_decide_div_mod_eq]
  have := Nat.mod_two_eq_zero_or_one (s / 2 ^ k)
  rcases this with h | h <;> simp [h]
theorem bit_1 {s k : Nat} (hs : s < 65536) (h : s.testBit k = true) : bits .and .i64 ((s : Int) / 2 ^ k) 1 = 1 := by rw [bit_at hs, if_pos h]
theorem bit_0 {s k : Nat} (hs : s < 65536) (h : s.testBit k = false) : bits .and .i64 ((s : Int) / 2 ^ k) 1 = 0 := by rw [bit_at hs, if_neg (by simp [h])]

set_option maxRecDepth 100000 in
set_option maxHeartbeats 1000000 in
theorem pcompareL {W : World} (x : Later W) (va vb : Value) (a b : List Int) (ha : IsInts W va a) (hb : IsInts W vb b) (hlen : a.length = b.length) :
    Calls Try.prog 130 #[va, vb] x.w fun e w' => ∃ j : Int, e = .returned (.int .i64 j) ∧ decide (j < 0) = lessB a b ∧ ∃ y : Later W, w' = y.w := by
  have HS := Lib.hid (fun n i h => @lessTo_yes a b n i h)
  have HN := Lib.hid (fun n i h => @lessTo_no a b n i h)
  replace hlen := Lib.hid hlen
  obtain ⟨aa, ca, rfl, la, hA⟩ := ha.opened
  obtain ⟨ab, cb, rfl, lb, hB⟩ := hb.opened
  clear ha hb
  go_enter Try.func130, Try.ntmps130
  go_wp2
  go_loopw [11] (fun i wr => ∃ k : Nat, k ≤ a.length ∧ i = .int .i64 k ∧ (∃ y : Later W, wr = y.w) ∧ lessB a b = lessTo a b (a.length - k) k) (fun i _ => a.length - (intOf i).toNat)
  case atStart => exact ⟨0, Nat.zero_le _, rfl, ⟨x, rfl⟩, rfl⟩
  case round =>
    obtain ⟨k, hk, rfl, ⟨x, rfl⟩, hres⟩ := hrel
    replace hres := Lib.hid hres
    by_cases hlt : k < a.length
    · have hltb : k < b.length := by have := hlen.out; omega
      obtain ⟨b1, o1, rfl, hb1, c1⟩ := hA.out k hlt
      obtain ⟨b2, o2, rfl, hb2, c2⟩ := hB.out k hltb
      have e : a.length - k = (a.length - (k + 1)) + 1 := by omega
      replace e := Lib.hid e
      cases hC : (cmpI (nth a k) (nth b k) != 0)
      · have he := Lib.hid (cmpI_0 (eq_bneI hC))
        go_wp2_with (go_at_call 159; refine (pcompareInt _ _ _).mono ?_; rintro e w' ⟨rfl, rfl⟩)
        go_roundw
        case rel => exact ⟨k + 1, by omega, by go_num, ⟨x, rfl⟩, by rw [hres.out, e.out, HN.out _ _ he.out]⟩
        case measure => simp [intOf]; omega
      · have he := Lib.hid (cmpI_ne (ne_bneI hC))
        go_wp2_with (go_at_call 159; refine (pcompareInt _ _ _).mono ?_; rintro e w' ⟨rfl, rfl⟩)
        go_ret
        exact ⟨_, rfl, by rw [hres.out, e.out, HS.out _ _ he.out.2]; exact he.out.1, x, rfl⟩
    · obtain rfl : k = a.length := by omega
      have hge : ¬ a.length < b.length := by have := hlen.out; omega
      go_wp2
      go_ret
      exact ⟨_, rfl, by rw [hres.out, Nat.sub_self]; rfl, x, rfl⟩

/-- the items that the first k bits of a number list -/
def listedTo (items : List Int) (s : Nat) (k : Nat) : List Int := ((List.range k).filter fun j => s.testBit j).map (nth items)
def listed (items : List Int) (s : Nat) : List Int := listedTo items s items.length
theorem listedTo_succ (items : List Int) (s k : Nat) : listedTo items s (k + 1) = if s.testBit k = true then listedTo items s k ++ [nth items k] else listedTo items s k := by
  unfold listedTo; rw [List.range_succ, List.filter_append, List.map_append]
  cases h : s.testBit k <;> simp [h]
theorem listedTo_len (items : List Int) (s k : Nat) : (listedTo items s k).length = cnt k s := by unfold listedTo cnt; rw [List.length_map]
theorem listed_len (items : List Int) (s : Nat) : (listed items s).length = cnt items.length s := listedTo_len _ _ _

set_option maxRecDepth 100000 in
set_option maxHeartbeats 1000000 in
theorem plisted {W : World} (x : Later W) (v : Value) (items : List Int) (s b : Nat) (hs : s < 65536) (h : IsInts W v items) (h16 : items.length ≤ 16) (hc : ∀ y : Later W, y.w.cell? ⟨b, 0, none⟩ = some v) :
    Calls Try.prog 128 #[.int .i64 s, .pointer (some ⟨b, 0, none⟩)] x.w (EndsOwn W (listed items s)) := by
  obtain ⟨A, c, rfl, ll, hI⟩ := h.opened
  clear h
  go_enter Try.func128, Try.ntmps128
  go_wp2
  go_loopw [3, 8] (fun out i wr => ∃ k : Nat, k ≤ items.length ∧ i = .int .i64 k ∧ ∃ y : Later W, wr = y.w ∧ y.w.ownsRow W.heap.size 3 1 out (listedTo items s k).length ((listedTo items s k).map (Value.int .i64))) (fun _ i _ => items.length - (intOf i).toNat)
  case atStart => exact ⟨0, Nat.zero_le _, rfl, x, rfl, World.ownsRow_nil _ _ _ _⟩
  case round =>
    obtain ⟨k, hk, rfl, x, rfl, hown⟩ := hrel
    by_cases hlt : k < items.length
    · obtain ⟨bk, o, rfl, hbk, c0⟩ := hI.out k hlt
      have hll := listedTo_len items s k
      have hle := cnt_le k s
      have hln : (listedTo items s k).length ≤ 16 := by omega
      have HS := Lib.hid (listedTo_succ items s k)
      clear hll hle
      cases hT : s.testBit k
      · have hbit := bit_0 hs hT
        go_wp2
        go_roundw
        case rel => exact ⟨k + 1, by omega, by go_num, x, rfl, by rw [HS.out, if_neg (by simp [hT])]; exact hown⟩
        case measure => simp [intOf]; omega
      · have hbit := bit_1 hs hT
        go_wp2_with (at_builtin; refine wpList_app1 x 22 3 _ 8 Try.info3 rfl Try.underlying22 rfl _ _ rfl _ _ _ (by rfl) hown _ (by rfl) (by rfl) (by omega) (by omega) ?_; intro v' x hown' hgr)
        go_roundw
        case rel => exact ⟨k + 1, by omega, by go_num, x, rfl, owns_step hown' (by rw [HS.out, if_pos hT])⟩
        case measure => simp [intOf]; omega
    · obtain rfl : k = items.length := by omega
      obtain ⟨A', c', rfl⟩ := owns_slice hown
      go_wp2
      go_ret
      exact ⟨_, rfl, x, rfl, hown⟩
end Go.Proofs.Ytmpkbolabdmkkaa
