/- CONTRACTS of the library's OnesCount, Index and Compare; of what a set of items lists. -/
import Derived.Test.YtmpkbolabdmkkaaZj
import Derived.Test.YtmpkbolabdmkkaaZk
import Derived.Test.YtmpkbolabdmkkaaZh
import Derived.Laws.CopyOwn
namespace Go.Proofs.Ytmpkbolabdmkkaa
open Go.RowKit

set_option maxRecDepth 100000 in
set_option maxHeartbeats 1000000 in
theorem ponesU (x : Nat) (hx : x < 65536) (w : World) : Calls Try.prog 158 #[.int .u64 x] w fun e w' => e = .returned (.int .i64 (ones64 x)) ∧ w = w' := by
  obtain ⟨a1, ha1⟩ : ∃ a, a = x / 2 &&& 6148914691236517205 := ⟨_, rfl⟩
  obtain ⟨b1, hb1⟩ : ∃ a, a = x &&& 6148914691236517205 := ⟨_, rfl⟩
  have la1 : a1 ≤ x / 2 := ha1 ▸ Nat.and_le_left
  have lb1 : b1 ≤ x := hb1 ▸ Nat.and_le_left
  have ea1 : bits .and .u64 ((x : Int) / 2) 6148914691236517205 = (a1 : Int) := by rw [ha1]; exact u64_and_nat (x / 2) _ (by omega) (by decide)
  have eb1 : bits .and .u64 (x : Int) 6148914691236517205 = (b1 : Int) := by rw [hb1]; exact u64_and_nat x _ (by omega) (by decide)
  obtain ⟨a2, ha2⟩ : ∃ a, a = (a1 + b1) / 4 &&& 3689348814741910323 := ⟨_, rfl⟩
  obtain ⟨b2, hb2⟩ : ∃ a, a = (a1 + b1) &&& 3689348814741910323 := ⟨_, rfl⟩
  have la2 : a2 ≤ (a1 + b1) / 4 := ha2 ▸ Nat.and_le_left
  have lb2 : b2 ≤ a1 + b1 := hb2 ▸ Nat.and_le_left
  have ea2 : bits .and .u64 (((a1 : Int) + b1) / 4) 3689348814741910323 = (a2 : Int) := by rw [ha2]; exact u64_and_nat ((a1 + b1) / 4) _ (by omega) (by decide)
  have eb2 : bits .and .u64 ((a1 : Int) + b1) 3689348814741910323 = (b2 : Int) := by rw [hb2]; exact u64_and_nat (a1 + b1) _ (by omega) (by decide)
  obtain ⟨a3, ha3⟩ : ∃ a, a = ((a2 + b2) / 16 + (a2 + b2)) &&& 1085102592571150095 := ⟨_, rfl⟩
  have la3 : a3 ≤ (a2 + b2) / 16 + (a2 + b2) := ha3 ▸ Nat.and_le_left
  have ea3 : bits .and .u64 (((a2 : Int) + b2) / 16 + (a2 + b2)) 1085102592571150095 = (a3 : Int) := by rw [ha3]; exact u64_and_nat ((a2 + b2) / 16 + (a2 + b2)) _ (by omega) (by decide)
  have e7 := i64_and127
  have hres : Hid (ones64 x = (((a3 / 256 + a3) / 65536 + (a3 / 256 + a3)) / 4294967296 + ((a3 / 256 + a3) / 65536 + (a3 / 256 + a3))) % 128) := Lib.hid (by rw [ha3, ha2, hb2, ha1, hb1]; rfl)
  clear ha1 hb1 ha2 hb2 ha3
  go_enter Try.func158, Try.ntmps158
  go_wp2
  go_ret
  exact ⟨ret_int (by rw [hres.out]; omega), rfl⟩

set_option maxHeartbeats 1000000 in
theorem pones (x : Nat) (hx : x < 65536) (w : World) : Calls Try.prog 129 #[.int .u64 x] w fun e w' => e = .returned (.int .i64 (ones64 x)) ∧ w = w' := by
  go_enter Try.func129, Try.ntmps129
  go_wp2_with (go_at_call 158; refine (ponesU x hx _).mono ?_; rintro e w' ⟨rfl, rfl⟩)
  go_ret
  exact ⟨rfl, rfl⟩

/-- where a number first stands in a list; -1: nowhere -/
def idxL (l : List Int) (a : Int) : Int := if a ∈ l then (l.idxOf a : Nat) else -1
theorem idxL_at {l : List Int} {a : Int} {k : Nat} (hk : k < l.length) (h : nth l k = a) (hn : ∀ i, i < k → nth l i ≠ a) : idxL l a = k := by
  have hm : a ∈ l := by rw [← h]; exact nth_mem hk
  unfold idxL
  rw [if_pos hm]
  congr 1
  have hlt := List.idxOf_lt_length_iff.2 hm
  have hg : nth l (l.idxOf a) = a := by rw [nth_eq _ _ hlt]; exact List.getElem_idxOf hlt
  rcases Nat.lt_trichotomy (l.idxOf a) k with h1 | h1 | h1
  · exact absurd hg (hn _ h1)
  · exact h1
  · have : k < l.idxOf a := h1
    have h2 := List.not_of_lt_findIdx this
    rw [nth_eq _ _ hk] at h
    simp [h] at h2
theorem idxL_none {l : List Int} {a : Int} (hn : ∀ i, i < l.length → nth l i ≠ a) : idxL l a = -1 := by
  unfold idxL
  rw [if_neg]
  intro hm
  obtain ⟨i, hi, rfl⟩ := List.getElem_of_mem hm
  exact hn i hi (nth_eq l i hi)

set_option maxRecDepth 100000 in
set_option maxHeartbeats 1000000 in
theorem pindexI {W : World} (x : Later W) (v : Value) (l : List Int) (a : Int) (h : IsInts W v l) : Calls Try.prog 126 #[v, .int .i64 a] x.w (Ends W (.int .i64 (idxL l a))) := by
  obtain ⟨A, c, rfl, ll, hI⟩ := h.opened
  clear h
  have hat := Lib.hid (fun k => @idxL_at l a k)
  have hno := Lib.hid (@idxL_none l a)
  go_enter Try.func126, Try.ntmps126
  go_wp2
  go_loopw [8] (fun i wr => ∃ k : Nat, k ≤ l.length ∧ i = .int .i64 k ∧ (∃ y : Later W, wr = y.w) ∧ (∀ i, i < k → nth l i ≠ a)) (fun i _ => l.length - (intOf i).toNat)
  case atStart => exact ⟨0, Nat.zero_le _, rfl, ⟨x, rfl⟩, by omega⟩
  case round =>
    obtain ⟨k, hk, rfl, ⟨x, rfl⟩, hz⟩ := hrel
    replace hz := Lib.hid hz
    by_cases hlt : k < l.length
    · obtain ⟨b, o, rfl, hb, c0⟩ := hI.out k hlt
      cases hA : (a == nth l k)
      · go_wp2
        go_roundw
        case rel => exact ⟨k + 1, by omega, by go_num, ⟨x, rfl⟩, all_step hz.out (fun e => ne_beqI hA e.symm)⟩
        case measure => simp [intOf]; omega
      · go_wp2
        go_ret
        exact ⟨ret_int (hat.out k hlt (eq_beqI hA).symm hz.out).symm, x, rfl⟩
    · obtain rfl : k = l.length := by omega
      go_wp2
      go_ret
      exact ⟨ret_int (hno.out hz.out).symm, x, rfl⟩

theorem cmpI_0 {a b : Int} (h : cmpI a b = 0) : a = b := by
  unfold cmpI at h
  by_cases h1 : a < b
  · rw [if_pos h1] at h; cases h
  · rw [if_neg h1] at h
    by_cases h2 : b < a
    · rw [if_pos h2] at h; cases h
    · omega
theorem cmpI_ne {a b : Int} (h : cmpI a b ≠ 0) : decide (cmpI a b < 0) = decide (a < b) ∧ a ≠ b := by
  unfold cmpI at h ⊢
  by_cases h1 : a < b
  · rw [if_pos h1]; simp [h1]; omega
  · rw [if_neg h1] at h ⊢
    by_cases h2 : b < a
    · rw [if_pos h2]; simp [h1]; omega
    · rw [if_neg h2] at h; exact absurd rfl h

/-- one bit of a number, as the program looks at it -/
theorem bit_at {s : Nat} (hs : s < 65536) (k : Nat) : bits .and .i64 ((s : Int) / 2 ^ k) 1 = if s.testBit k = true then 1 else 0 := by
  have e : ((s / 2 ^ k : Nat) : Int) = (s : Int) / 2 ^ k := by simp
  have hle : s / 2 ^ k ≤ s := Nat.div_le_self _ _
  rw [← e]
  refine (i64_and_nat (s / 2 ^ k) 1 (by omega) (by decide)).trans ?_
  rw [Nat.and_one_is_mod, Nat.testBit_eq_decide_div_mod_eq]
  have := Nat.mod_two_eq_zero_or_one (s / 2 ^ k)
  rcases this with h | h <;> simp [h]
theorem bit_1 {s k : Nat} (hs : s < 65536) (h : s.testBit k = true) : bits .and .i64 ((s : Int) / 2 ^ k) 1 = 1 := by rw [bit_at hs, if_pos h]
theorem bit_0 {s k : Nat} (hs : s < 65536) (h : s.testBit k = false) : bits .and .i64 ((s : Int) / 2 ^ k) 1 = 0 := by rw [bit_at hs, if_neg (by simp [h])]

set_option maxRecDepth 100000 in
set_option maxHeartbeats 1000000 in
theorem pcompareL {W : World} (x : Later W) (va vb : Value) (a b : List Int) (ha : IsInts W va a) (hb : IsInts W vb b) (hlen : a.length = b.length) :
    Calls Try.prog 130 #[va, vb] x.w fun e w' => ∃ j : Int, e = .returned (.int .i64 j) ∧ decide (j < 0) = lessB a b ∧ ∃ y : Later W, w' = y.w := by
  have HS := Lib.hid (fun n i h => @lessTo_yes a b n i h)
  have HN := Lib.hid (fun n i h => @lessTo_no a b n i h)
  replace hlen := Lib.hid hlen
  obtain ⟨aa, ca, rfl, la, hA⟩ := ha.opened
  obtain ⟨ab, cb, rfl, lb, hB⟩ := hb.opened
  clear ha hb
  go_enter Try.func130, Try.ntmps130
  go_wp2
  go_loopw [11] (fun i wr => ∃ k : Nat, k ≤ a.length ∧ i = .int .i64 k ∧ (∃ y : Later W, wr = y.w) ∧ lessB a b = lessTo a b (a.length - k) k) (fun i _ => a.length - (intOf i).toNat)
  case atStart => exact ⟨0, Nat.zero_le _, rfl, ⟨x, rfl⟩, rfl⟩
  case round =>
    obtain ⟨k, hk, rfl, ⟨x, rfl⟩, hres⟩ := hrel
    replace hres := Lib.hid hres
    by_cases hlt : k < a.length
    · have hltb : k < b.length := by have := hlen.out; omega
      obtain ⟨b1, o1, rfl, hb1, c1⟩ := hA.out k hlt
      obtain ⟨b2, o2, rfl, hb2, c2⟩ := hB.out k hltb
      have e : a.length - k = (a.length - (k + 1)) + 1 := by omega
      replace e := Lib.hid e
      cases hC : (cmpI (nth a k) (nth b k) != 0)
      · have he := Lib.hid (cmpI_0 (eq_bneI hC))
        go_wp2_with (go_at_call 159; refine (pcompareInt _ _ _).mono ?_; rintro e w' ⟨rfl, rfl⟩)
        go_roundw
        case rel => exact ⟨k + 1, by omega, by go_num, ⟨x, rfl⟩, by rw [hres.out, e.out, HN.out _ _ he.out]⟩
        case measure => simp [intOf]; omega
      · have he := Lib.hid (cmpI_ne (ne_bneI hC))
        go_wp2_with (go_at_call 159; refine (pcompareInt _ _ _).mono ?_; rintro e w' ⟨rfl, rfl⟩)
        go_ret
        exact ⟨_, rfl, by rw [hres.out, e.out, HS.out _ _ he.out.2]; exact he.out.1, x, rfl⟩
    · obtain rfl : k = a.length := by omega
      have hge : ¬ a.length < b.length := by have := hlen.out; omega
      go_wp2
      go_ret
      exact ⟨_, rfl, by rw [hres.out, Nat.sub_self]; rfl, x, rfl⟩

/-- the items that the first k bits of a number list -/
def listedTo (items : List Int) (s : Nat) (k : Nat) : List Int := ((List.range k).filter fun j => s.testBit j).map (nth items)
def listed (items : List Int) (s : Nat) : List Int := listedTo items s items.length
theorem listedTo_succ (items : List Int) (s k : Nat) : listedTo items s (k + 1) = if s.testBit k = true then listedTo items s k ++ [nth items k] else listedTo items s k := by
  unfold listedTo; rw [List.range_succ, List.filter_append, List.map_append]
  cases h : s.testBit k <;> simp [h]
theorem listedTo_len (items : List Int) (s k : Nat) : (listedTo items s k).length = cnt k s := by unfold listedTo cnt; rw [List.length_map]
theorem listed_len (items : List Int) (s : Nat) : (listed items s).length = cnt items.length s := listedTo_len _ _ _

set_option maxRecDepth 100000 in
set_option maxHeartbeats 1000000 in
theorem plisted {W : World} (x : Later W) (v : Value) (items : List Int) (s b : Nat) (hs : s < 65536) (h : IsInts W v items) (h16 : items.length ≤ 16) (hc : ∀ y : Later W, y.w.cell? ⟨b, 0, none⟩ = some v) :
    Calls Try.prog 128 #[.int .i64 s, .pointer (some ⟨b, 0, none⟩)] x.w (EndsOwn W (listed items s)) := by
  obtain ⟨A, c, rfl, ll, hI⟩ := h.opened
  clear h
  go_enter Try.func128, Try.ntmps128
  go_wp2
  go_loopw [3, 8] (fun out i wr => ∃ k : Nat, k ≤ items.length ∧ i = .int .i64 k ∧ ∃ y : Later W, wr = y.w ∧ y.w.ownsRow W.heap.size 3 1 out (listedTo items s k).length ((listedTo items s k).map (Value.int .i64))) (fun _ i _ => items.length - (intOf i).toNat)
  case atStart => exact ⟨0, Nat.zero_le _, rfl, x, rfl, World.ownsRow_nil _ _ _ _⟩
  case round =>
    obtain ⟨k, hk, rfl, x, rfl, hown⟩ := hrel
    by_cases hlt : k < items.length
    · obtain ⟨bk, o, rfl, hbk, c0⟩ := hI.out k hlt
      have hll := listedTo_len items s k
      have hle := cnt_le k s
      have hln : (listedTo items s k).length ≤ 16 := by omega
      have HS := Lib.hid (listedTo_succ items s k)
      clear hll hle
      cases hT : s.testBit k
      · have hbit := bit_0 hs hT
        go_wp2
        go_roundw
        case rel => exact ⟨k + 1, by omega, by go_num, x, rfl, by rw [HS.out, if_neg (by simp [hT])]; exact hown⟩
        case measure => simp [intOf]; omega
      · have hbit := bit_1 hs hT
        go_wp2_with (at_builtin; refine wpList_app1 x 22 3 _ 8 Try.info3 rfl Try.underlying22 rfl _ _ rfl _ _ _ (by rfl) hown _ (by rfl) (by rfl) (by omega) (by omega) ?_; intro v' x hown' hgr)
        go_roundw
        case rel => exact ⟨k + 1, by omega, by go_num, x, rfl, owns_step hown' (by rw [HS.out, if_pos hT])⟩
        case measure => simp [intOf]; omega
    · obtain rfl : k = items.length := by omega
      obtain ⟨A', c', rfl⟩ := owns_slice hown
      go_wp2
      go_ret
      exact ⟨_, rfl, x, rfl, hown⟩
end Go.Proofs.Ytmpkbolabdmkkaa

/- SETS OF ITEMS AS NUMBERS: what a filling violates; which sets are kept; the least set that is not. -/
namespace Go.Proofs.Ytmpkbolabdmkkaa

/-- the items, as places' least finds them -/
theorem items_comp (l : List Rl) : ∀ k, k ≤ l.length → itemsTo l k = compL ((l.take k).map Rl.item)
  | 0, _ => rfl
  | k + 1, hk => by
    have e : (l.take (k + 1)).map Rl.item = (l.take k).map Rl.item ++ [(nth l k).item] := by rw [take_snoc_nth l k (by omega), List.map_append]; rfl
    rw [e, compL_snoc, itemsTo, items_comp l k (by omega)]
    by_cases h0 : k = 0
    · subst h0; simp
    · have hl : ((l.take k).map Rl.item).getLast? = some (nth l (k - 1)).item := by
        obtain ⟨j, rfl⟩ : ∃ j, k = j + 1 := ⟨k - 1, by omega⟩
        rw [take_snoc_nth l j (by omega), List.map_append]; simp
      rw [hl]
      by_cases h1 : (nth l k).item = (nth l (k - 1)).item
      · rw [if_neg (by simp [h0, h1]), if_pos (by rw [h1])]
      · rw [if_pos (.inr h1), if_neg (by simpa using fun e => h1 e.symm)]
theorem mem_itemsTo (l : List Rl) : ∀ k, k ≤ l.length → ∀ j, j < k → (nth l j).item ∈ itemsTo l k
  | 0, _, _, h => absurd h (Nat.not_lt_zero _)
  | k + 1, hk, j, h => by
    unfold itemsTo
    by_cases hc : k = 0 ∨ (nth l k).item ≠ (nth l (k - 1)).item
    · rw [if_pos hc]
      rcases Nat.lt_succ_iff_lt_or_eq.1 h with h1 | rfl
      · exact List.mem_append_left _ (mem_itemsTo l k (by omega) j h1)
      · simp
    · rw [if_neg hc]
      rcases Nat.lt_succ_iff_lt_or_eq.1 h with h1 | rfl
      · exact mem_itemsTo l k (by omega) j h1
      · have h2 : j ≠ 0 ∧ (nth l j).item = (nth l (j - 1)).item := by simpa using hc
        rw [h2.2]; exact mem_itemsTo l j (by omega) (j - 1) (by omega)

/-- the items that a filling violates, as bits -/
def vmTo (p : Prob) (f : List Int) : Nat → Nat
  | 0 => 0
  | k + 1 => if keepsB (nth p.rules k) f = true then vmTo p f k else vmTo p f k ||| 2 ^ ((items p).idxOf (nth p.rules k).item)
def vm (p : Prob) (f : List Int) : Nat := vmTo p f p.rules.length
theorem idx_lt (p : Prob) {k : Nat} (hk : k < p.rules.length) : (items p).idxOf (nth p.rules k).item < (items p).length := List.idxOf_lt_length_iff.2 (mem_itemsTo _ _ (Nat.le_refl _) k hk)
theorem idxL_rule (p : Prob) {k : Nat} (hk : k < p.rules.length) : idxL (items p) (nth p.rules k).item = ((items p).idxOf (nth p.rules k).item : Nat) := by
  unfold idxL; rw [if_pos (show _ ∈ items p from mem_itemsTo _ _ (Nat.le_refl _) k hk)]
theorem vmTo_lt (p : Prob) (f : List Int) : ∀ k, k ≤ p.rules.length → vmTo p f k < 2 ^ (items p).length
  | 0, _ => Nat.two_pow_pos _
  | k + 1, hk => by
    unfold vmTo
    have h := vmTo_lt p f k (by omega)
    split
    · exact h
    · exact Nat.or_lt_two_pow h (Nat.pow_lt_pow_right (by decide) (idx_lt p (by omega)))
theorem vm_lt (p : Prob) (f : List Int) : vm p f < 2 ^ (items p).length := vmTo_lt p f _ (Nat.le_refl _)

/-- a row of bools, one for each set -/
def rowK (n : Nat) (f : Nat → Bool) : List Bool := (List.range (2 ^ n)).map f
theorem rowK_len (n : Nat) (f : Nat → Bool) : (rowK n f).length = 2 ^ n := by simp [rowK]
theorem nth_rowK {n s : Nat} (f : Nat → Bool) (hs : s < 2 ^ n) : nth (rowK n f) s = f s := by rw [nth_eq _ _ (by rw [rowK_len]; exact hs)]; simp [rowK]
theorem rowK_congr {n : Nat} {f g : Nat → Bool} (h : ∀ s, s < 2 ^ n → f s = g s) : rowK n f = rowK n g := by
  unfold rowK; exact List.map_congr_left fun s hs => h s (by simpa using hs)
theorem rowK_set {n i : Nat} (f : Nat → Bool) (hi : i < 2 ^ n) : (rowK n f).set i true = rowK n fun s => f s || s == i := by
  refine ext_nth (by rw [List.length_set, rowK_len, rowK_len]) fun s hs => ?_
  rw [List.length_set, rowK_len] at hs
  rw [nth_rowK _ hs]
  by_cases e : s = i
  · subst e; rw [nth_set_same (by rw [rowK_len]; exact hi)]; simp
  · rw [nth_set_other e, nth_rowK _ hs]; simp [e]
theorem rowK_false (n : Nat) : rowK n (fun _ => false) = List.replicate (2 ^ n) false := by
  unfold rowK; rw [List.map_const']; simp

/-- a filling counts -/
def useB (p : Prob) (of : List Int → Bool) (f : List Int) : Bool := soundB p f && of f
/-- the sets that one of the first k fillings violates nothing of, and everything else -/
def k0To (p : Prob) (of : List Int → Bool) (k : Nat) (s : Nat) : Bool := ((fills p).take k).any fun f => useB p of f && (s == 2 ^ (items p).length - 1 - vm p f)
theorem k0To_succ {p : Prob} {of : List Int → Bool} {k : Nat} (hk : k < total p) (s : Nat) : k0To p of (k + 1) s = (k0To p of k s || (useB p of (fill p k) && (s == 2 ^ (items p).length - 1 - vm p (fill p k)))) := by
  unfold k0To; rw [take_snoc_nth _ k (by rw [fills_len]; exact hk), List.any_append, nth_fills hk]; simp
theorem k0To_no {p : Prob} {of : List Int → Bool} {k : Nat} (hk : k < total p) (h : useB p of (fill p k) = false) : k0To p of (k + 1) = k0To p of k := by
  funext s; rw [k0To_succ hk, h]; simp
theorem k0To_yes {p : Prob} {of : List Int → Bool} {k : Nat} (hk : k < total p) (h : useB p of (fill p k) = true) : k0To p of (k + 1) = fun s => k0To p of k s || s == 2 ^ (items p).length - 1 - vm p (fill p k) := by
  funext s; rw [k0To_succ hk, h]; simp

/-- parts of what is kept are kept: one item more -/
def kStep (k : Nat) (g : Nat → Bool) (s : Nat) : Bool := g s || (!s.testBit k && g (s + 2 ^ k))
def kUp (g : Nat → Bool) : Nat → Nat → Bool
  | 0 => g
  | k + 1 => kStep k (kUp g k)
/-- .. looked at below m alone -/
def kPart (k : Nat) (g : Nat → Bool) (m s : Nat) : Bool := g s || (!s.testBit k && decide (s + 2 ^ k < m) && g (s + 2 ^ k))
theorem kPart_0 (k : Nat) (g : Nat → Bool) : kPart k g 0 = g := by funext s; simp [kPart]
theorem add_bit {n s k : Nat} (hs : s < 2 ^ n) (hn : n ≤ 16) (hk : k < n) (h : s.testBit k = false) : s + 2 ^ k < 2 ^ n := by
  have hp : 2 ^ n ≤ 2 ^ 16 := Nat.pow_le_pow_right (by decide) hn
  have hkn : 2 ^ k < 2 ^ n := Nat.pow_lt_pow_right (by decide) hk
  have h0 : s &&& 2 ^ k = 0 := by
    apply Nat.eq_of_testBit_eq
    intro j
    rw [Nat.testBit_and, Nat.testBit_two_pow]
    by_cases hj : k = j
    · subst hj; simp [h]
    · simp [hj]
  rw [nat_add_or (by omega) (by omega) h0]
  exact Nat.or_lt_two_pow hs hkn
theorem kPart_all {n k : Nat} (hn : n ≤ 16) (hk : k < n) (g : Nat → Bool) : ∀ s, s < 2 ^ n → kPart k g (2 ^ n) s = kStep k g s := fun s hs => by
  unfold kPart kStep
  cases h : s.testBit k
  · simp [add_bit hs hn hk h]
  · simp
theorem kPart_at {k m : Nat} (g : Nat → Bool) (h : m.testBit k = true) : kPart k g m m = g m := by simp [kPart, h]
theorem kPart_succ (k m : Nat) (g : Nat → Bool) (hm : m < 65536) : kPart k g (m + 1) = fun s => kPart k g m s || (m.testBit k && g m && (s == m - 2 ^ k)) := by
  funext s
  unfold kPart
  cases ht : m.testBit k
  · have hne : s.testBit k = false → s + 2 ^ k ≠ m := by
      intro h1 e
      rw [← e, Nat.add_comm, Nat.testBit_two_pow_add_eq, h1] at ht
      cases ht
    cases hs : s.testBit k
    · have := hne hs
      have e : decide (s + 2 ^ k < m + 1) = decide (s + 2 ^ k < m) := by simp; omega
      rw [e]; simp
    · simp
  · obtain ⟨_, hle⟩ := bit_not hm ht
    have hz : (m - 2 ^ k).testBit k = false := by
      have := Nat.testBit_two_pow_add_eq (m - 2 ^ k) k
      rw [show 2 ^ k + (m - 2 ^ k) = m by omega, ht] at this
      simpa using this.symm
    by_cases e : s = m - 2 ^ k
    · subst e
      have e2 : m - 2 ^ k + 2 ^ k = m := by omega
      simp [hz, e2]
    · have e1 : decide (s + 2 ^ k < m + 1) = decide (s + 2 ^ k < m) := by simp; omega
      rw [e1]; simp [e]

/-- the best of the first m sets that are not kept -/
def bestTo (its : List Int) (K : Nat → Bool) : Nat → Nat
  | 0 => 2 ^ its.length - 1
  | s + 1 => if K s = false ∧ (cnt its.length s < cnt its.length (bestTo its K s) ∨ (cnt its.length s = cnt its.length (bestTo its K s) ∧ lessB (listed its s) (listed its (bestTo its K s)) = true)) then s else bestTo its K s
theorem bestTo_lt (its : List Int) (K : Nat → Bool) : ∀ m, m ≤ 2 ^ its.length → bestTo its K m < 2 ^ its.length
  | 0, _ => by have := Nat.two_pow_pos its.length; unfold bestTo; omega
  | m + 1, hm => by
    unfold bestTo
    split
    · omega
    · exact bestTo_lt its K m (by omega)
/-- which sets are kept in the end -/
def keptK (p : Prob) (of : List Int → Bool) : Nat → Bool := kUp (k0To p of (total p)) (items p).length
def leastO (p : Prob) (of : List Int → Bool) : Option (List Int) := if keptK p of (2 ^ (items p).length - 1) = true then none else some (listed (items p) (bestTo (items p) (keptK p of) (2 ^ (items p).length)))
end Go.Proofs.Ytmpkbolabdmkkaa

/- CONTRACTS of the library's Mul and Repeat. -/
namespace Go.Proofs.Ytmpkbolabdmkkaa
open Go.RowKit

set_option maxRecDepth 100000 in
set_option maxHeartbeats 1000000 in
theorem pmul64 (n : Nat) (hn : n ≤ 65536) (w : World) : Calls Try.prog 171 #[.int .u64 1, .int .u64 n] w fun e w' => e = .returned (.tuple #[.int .u64 0, .int .u64 n]) ∧ w = w' := by
  have e1 : bits .and .u64 (n : Int) 4294967295 = (n : Int) := by
    have h := u64_and_nat n 4294967295 (by omega) (by decide)
    rw [show n &&& 4294967295 = n by rw [show (4294967295 : Nat) = 2 ^ 32 - 1 by decide, Nat.and_two_pow_sub_one_eq_mod]; omega] at h
    exact h
  have e2 : bits .and .u64 1 4294967295 = 1 := by decide
  have e3 : bits .and .u64 0 4294967295 = 0 := by decide
  have e4 : (n : Int) / 4294967296 = 0 := by omega
  go_enter Try.func171, Try.ntmps171
  go_wp2
  go_ret2
  exact ⟨rfl, rfl⟩

set_option maxHeartbeats 1000000 in
theorem pmul (n : Nat) (hn : n ≤ 65536) (w : World) : Calls Try.prog 166 #[.int .u64 1, .int .u64 n] w fun e w' => e = .returned (.tuple #[.int .u64 0, .int .u64 n]) ∧ w = w' := by
  go_enter Try.func166, Try.ntmps166
  go_wp2_with (go_at_call 171; refine (pmul64 n hn _).mono ?_; rintro e w' ⟨rfl, rfl⟩)
  go_ret2
  exact ⟨rfl, rfl⟩

/-- 'make([]bool, n)', run: the block as it lies -/
theorem makeBools_block (n : Nat) (hn : n ≤ 65536) (w : World) : (Instr.makeSlice 52 (.int .i64 n) (.int .i64 n)).run Try.prog w = .ok (.slice (some ⟨w.heap.size, 0, none⟩) n n) (w.alloc (.cells ((List.replicate n false).map Value.bool).toArray 4)) := by
  obtain ⟨i0, hi, hz0, hz1, hz2⟩ := info_parts Try.info4
  have := run_make (P := Try.prog) w 52 4 i0 _ Try.underlying52 hi hz0 .i64 .i64 n n (by omega) (by omega) (by rw [hz2]; omega) (by omega)
  have e : (madeCells (Value.bool false).cells n) = ((List.replicate n false).map Value.bool).toArray := by
    apply Array.toList_inj.1
    rw [List.map_replicate]; exact toList_madeCells_one _ _
  rw [← e]
  simpa [hz1] using this

/-- the row while it is filled -/
def repRow (b : Bool) (n k : Nat) : List Value := (List.replicate k b ++ List.replicate (n - k) false).map Value.bool
theorem repRow_len {b : Bool} {n k : Nat} (hk : k ≤ n) : (repRow b n k).length = n := by simp [repRow]; omega
theorem repRow_splice {b : Bool} {n k m : Nat} (hk : k + m ≤ n) : splice (repRow b n k) k ((List.replicate m b).map Value.bool) = repRow b n (k + m) := by
  unfold splice repRow
  rw [← List.map_take, List.length_map, List.length_replicate, ← List.map_drop, ← List.map_append, ← List.map_append]
  congr 1
  rw [List.take_left' (by simp), List.drop_append, List.drop_eq_nil_of_le (by simp), List.drop_replicate, List.length_replicate, List.nil_append, ← List.append_assoc, List.replicate_append_replicate]
  congr 2; omega
theorem repRow_at {b : Bool} {n k j : Nat} {w : World} {g : Nat} {t : TypeId} (hg : w.heap[g]? = some (.cells (repRow b n k).toArray t (0, 0))) (hj : j < k) : w.cell? ⟨g, j, none⟩ = some (.bool b) := by
  simp [World.cell?, hg, repRow, List.getElem?_append, hj]
theorem repRow_own {b : Bool} {n : Nat} {W w : World} {g : Nat} (hWg : W.heap.size ≤ g) (hg : w.heap[g]? = some (.cells (repRow b n n).toArray 4 (0, 0))) (hn : n ≤ 65536) :
    w.ownsRow W.heap.size 4 1 (.slice (some ⟨g, 0, none⟩) n n) n ((List.replicate n b).map Value.bool) := by
  exact ⟨by simp, .inr ⟨g, n, _, rfl, hWg, hg, Nat.le_refl _, by unfold maxLen; omega, by simp [repRow], by simp [repRow]⟩⟩

set_option maxRecDepth 100000 in
set_option maxHeartbeats 1000000 in
theorem prepeat {W : World} (x : Later W) (v : Value) (b : Bool) (n : Nat) (h : IsBools W v [b]) (h1 : 1 ≤ n) (hn : n ≤ 65536) :
    Calls Try.prog 143 #[v, .int .i64 n] x.w fun e w' => ∃ g, e = .returned (.slice (some ⟨g, 0, none⟩) n n) ∧ ∃ y : Later W, w' = y.w ∧ y.w.ownsRow W.heap.size 4 1 (.slice (some ⟨g, 0, none⟩) n n) n ((List.replicate n b).map Value.bool) := by
  obtain ⟨a, c, rfl, _, hI⟩ := h.opened
  obtain ⟨g0, o0, rfl, hs0, c0⟩ := hI.out 0 (by simp)
  clear h
  have hmk := makeBools_block n hn
  have hsrc := Lib.hid c0
  clear c0
  have hbW := Below.alloc x.h x.h.size (.cells ((List.replicate n false).map Value.bool).toArray 4)
  have hg1 : Hid ((x.w.alloc (.cells (List.replicate n (Value.bool false)).toArray 4)).heap[x.w.heap.size]? = some (.cells (List.replicate n (Value.bool false)).toArray 4 (0, 0))) := Lib.hid (World.alloc_heap_new _ _)
  have hrep : (List.replicate n (Value.bool false)) = repRow b n 0 := by simp [repRow]
  replace hrep := Lib.hid hrep
  have hone : ([Value.bool b] : List Value) = (List.replicate 1 b).map Value.bool := rfl
  replace hone := Lib.hid hone
  have hmin : Hid ([Value.bool b].length = Nat.min 1 n) := Lib.hid (by show 1 = min 1 n; omega)
  have hfit : Hid (0 + [Value.bool b].length ≤ (List.replicate n (Value.bool false)).length) := Lib.hid (by simpa using h1)
  have hcell : Hid (∀ (ad : Addr), ad = ⟨g0, o0, none⟩ → ∀ (j : Nat) (v : Value), [Value.bool b][j]? = some v → (x.w.alloc (.cells (List.replicate n (Value.bool false)).toArray 4)).cell? (ad.add j) = some v) := Lib.hid (by
    rintro ad rfl j v hj
    obtain ⟨rfl, rfl⟩ : j = 0 ∧ v = .bool b := by
      cases j with
      | zero => simpa using hj.symm
      | succ j => simp at hj
    have hlt := hs0 x
    rw [Below.cell (below_alloc1 _ _) (by exact hlt)]
    simpa [Addr.add, nth] using hsrc.out x)
  go_enter Try.func143, Try.ntmps143
  go_upto_region 7 with ((go_at_call 166; refine (pmul n hn _).mono ?_; rintro e w' ⟨rfl, rfl⟩))
  go_upto_region 8 with ((refine wpList_copy_splice (o := ⟨some 33, _, _, _, _, _⟩) rfl (.tmp 31) (.tmp 32) 52 52 rfl 4 Try.underlying52 (by kernel_rfl) (some ⟨x.w.heap.size, 0, none⟩) (some ⟨g0, o0, none⟩) n n 1 c rfl rfl x.w.heap.size 0 (List.replicate n (Value.bool false)) 4 (by simpa using hg1.out) [Value.bool b] hmin.out (fun _ => ⟨rfl, _, rfl, by simpa using hcell.out _ rfl⟩) hfit.out (by simp [Value.oneCell']) W.heap.size W (by simpa using hbW) x.h.size ?_; intro w2 hg2 hb2))
  replace hg2 := hg2.out
  rw [hrep.out, hone.out, repRow_splice (by omega), Nat.zero_add] at hg2
  obtain ⟨g, hg⟩ : ∃ g, g = x.w.heap.size := ⟨_, rfl⟩
  have hWg : W.heap.size ≤ g := hg ▸ x.h.size
  rw [← hg] at hg2 ⊢
  clear hg hg1 hcell hbW hmk
  replace hg2 := Lib.hid hg2
  go_loopw [8] (fun i wr => ∃ k : Nat, 1 ≤ k ∧ k ≤ n ∧ i = .int .i64 k ∧ ∃ y : Later W, wr = y.w ∧ y.w.heap[g]? = some (.cells (repRow b n k).toArray 4 (0, 0))) (fun i _ => n - (intOf i).toNat)
  case atStart => exact ⟨1, Nat.le_refl _, h1, rfl, ⟨w2, hb2⟩, rfl, hg2.out⟩
  case round =>
    obtain ⟨k, hk1, hk, rfl, ⟨y, rfl, hgk⟩⟩ := hrel
    replace hgk := Lib.hid hgk
    by_cases hlt : k < n
    · obtain ⟨m, hm⟩ : ∃ m, m = min k (n - k) := ⟨_, rfl⟩
      have hlen : Hid (((List.replicate m b).map Value.bool).length = Nat.min k (n - k)) := Lib.hid (by rw [hm]; simp)
      have hm1 : 1 ≤ m := by omega
      have hm2 : k + m ≤ n := by omega
      replace hm := Lib.hid hm
      have hnk : (if n = k then some (⟨g, 0, none⟩ : Addr) else some ⟨g, k, none⟩) = some ⟨g, k, none⟩ := if_neg (by omega)
      replace hnk := Lib.hid hnk
      have hfitk : Hid (k + ((List.replicate m b).map Value.bool).length ≤ (repRow b n k).length) := Lib.hid (by rw [repRow_len hk]; simpa using hm2)
      have hcellk : Hid (∀ w' : World, w'.heap = y.w.heap → ∀ (j : Nat) (v : Value), ((List.replicate m b).map Value.bool)[j]? = some v → w'.cell? ((⟨g, 0, none⟩ : Addr).add j) = some v) := Lib.hid (by
        intro w' hw' j v hj
        have hjm : j < m := by have := (List.getElem?_eq_some_iff.1 hj).1; simpa using this
        have : v = .bool b := by simpa [hjm] using hj.symm
        subst this
        have h2 := repRow_at (w := w') (j := j) (by rw [hw']; exact hgk.out) (by have := hm.out; omega)
        rw [show (⟨g, 0, none⟩ : Addr).add j = ⟨g, j, none⟩ by unfold Addr.add; by_cases h0 : j = 0 <;> simp [h0]]
        exact h2)
      have hwr : IntKind.i64.wrap ((k : Int) + m) = (k : Int) + m := by rw [IntKind.wrap_i64]; omega
      go_wp2
      go_region_law (refine step_copy_splice rfl (.tmp 41) (.tmp 44) 52 52 rfl 4 Try.underlying52 (by kernel_rfl) (if n = k then some ⟨g, 0, none⟩ else some ⟨g, k, none⟩) (some ⟨g, 0, none⟩) (n - k) (n - k) k n (by simp [Act.eval, Act.put]) (by simp [Act.eval, Act.put]) g k (repRow b n k) 4 hgk.out ((List.replicate m b).map Value.bool) hlen.out (fun _ => ⟨hnk.out, _, rfl, hcellk.out _ rfl⟩) hfitk.out (by simp [Value.oneCell']) W.heap.size W (by first | exact y.h | exact Below.drew y.h) hWg ?_; intro w3 hg3 hb3)
      replace hg3 := hg3.out
      rw [repRow_splice hm2] at hg3
      replace hg3 := Lib.hid hg3
      go_wp2
      go_roundw
      case rel => exact ⟨k + m, by omega, hm2, by simp, ⟨w3, hb3⟩, rfl, hg3.out⟩
      case measure => simp [intOf]; omega
    · obtain rfl : k = n := by omega
      go_wp2
      go_ret
      exact ⟨_, rfl, y, rfl, repRow_own hWg hgk.out hn⟩
end Go.Proofs.Ytmpkbolabdmkkaa
