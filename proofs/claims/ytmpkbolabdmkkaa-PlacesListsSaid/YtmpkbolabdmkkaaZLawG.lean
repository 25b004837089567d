/- CONTRACTS of the laws' before and single. -/
import Derived.Test.YtmpkbolabdmkkaaZLawD
import Derived.Test.YtmpkbolabdmkkaaZLst
namespace Go.Proofs.Ytmpkbolabdmkkaa
open Go.RowKit

set_option maxRecDepth 100000 in
set_option maxHeartbeats 1000000 in
theorem lbefore {W : World} (x : Later W) (va vb : Value) (a b : List Int) (ha : IsInts W va a) (hb : IsInts W vb b) (hlen : a.length = b.length) :
    Calls Try.prog 49 #[va, vb] x.w (Ends W (.bool (lessB a b))) := by
  have HS := Lib.hid (fun n i h => @lessTo_yes a b n i h)
  have HN := Lib.hid (fun n i h => @lessTo_no a b n i h)
  obtain ⟨aa, ca, rfl, la, hA⟩ := ha.opened
  obtain ⟨ab, cb, rfl, lb, hB⟩ := hb.opened
  clear ha hb
  obtain ⟨n, hn⟩ : ∃ n, n = a.length := ⟨_, rfl⟩
  rw [← hlen, ← hn]
  have hlb : b.length = n := by omega
  have hnle : n ≤ 17592186044416 := by omega
  have hdef : Hid (lessB a b = lessTo a b n 0) := Lib.hid (by rw [hn]; rfl)
  replace hlen := Lib.hid hlen
  replace hn := Lib.hid hn
  replace hlb := Lib.hid hlb
  go_enter Try.func49, Try.ntmps49
  go_wp2
  go_loopw [5] (fun i wr => ∃ k : Nat, k ≤ n ∧ i = .int .i64 k ∧ (∃ y : Later W, wr = y.w) ∧ lessB a b = lessTo a b (n - k) k) (fun i _ => n - (intOf i).toNat)
  case atStart => exact ⟨0, Nat.zero_le _, rfl, ⟨x, rfl⟩, hdef.out⟩
  case round =>
    clear x
    obtain ⟨k, hk, rfl, ⟨x, rfl⟩, hres⟩ := hrel
    replace hres := Lib.hid hres
    by_cases hlt : k < n
    · obtain ⟨b1, o1, rfl, hb1, c1⟩ := hA.out k (by have := hn.out; omega)
      obtain ⟨b2, o2, rfl, hb2, c2⟩ := hB.out k (by have := hlb.out; omega)
      have e : n - k = (n - (k + 1)) + 1 := by omega
      replace e := Lib.hid e
      cases hC : (nth a k != nth b k)
      · have he := Lib.hid (show nth a k = nth b k by simpa using hC)
        go_wp2
        refine wp_region_later x (by kernel_rfl) (by kernel_rfl) ?_
        repeat (go_big_quiet_step (fail))
        refine wpQuiet_nil ?_
        rintro _ ⟨x, rfl⟩
        go_wp2
        go_roundw
        case rel => exact ⟨k + 1, by omega, by go_num, ⟨x, rfl⟩, by rw [hres.out, e.out, HN.out _ _ he.out]⟩
        case measure => simp [intOf]; omega
      · have he := Lib.hid (show nth a k ≠ nth b k by simpa using hC)
        have hfin := Lib.hid (show lessB a b = decide (nth a k < nth b k) by rw [hres.out, e.out, HS.out _ _ he.out])
        go_wp2
        refine wp_region_later x (by kernel_rfl) (by kernel_rfl) ?_
        repeat (go_big_quiet_step (fail))
        refine wpQuiet_nil ?_
        rintro _ ⟨x, rfl⟩
        go_wp2
        refine wp_region_later x (by kernel_rfl) (by kernel_rfl) ?_
        repeat (go_big_quiet_step (fail))
        refine wpQuiet_nil ?_
        rintro _ ⟨x, rfl⟩
        go_wp2
        go_ret
        exact ⟨by rw [hfin.out]; rfl, x, rfl⟩
    · obtain rfl : k = n := by omega
      go_wp2
      go_ret
      refine ⟨?_, x, rfl⟩
      rw [hres.out, Nat.sub_self]; rfl

set_option maxRecDepth 100000 in
set_option maxHeartbeats 1000000 in
theorem lsingle {W : World} (x : Later W) (v : Value) (l : List Bool) (h : IsBools W v l) (hl : l.length ≤ 65536) : Calls Try.prog 51 #[v] x.w (Ends W (.int .i64 (sgl l))) := by
  obtain ⟨A, c, rfl, ll, hI⟩ := h.opened
  clear h
  have hbd := Lib.hid (fun k => sglN_bd l k)
  go_enter Try.func51, Try.ntmps51
  go_wp2
  go_loopw [3, 4, 5] (fun ov nv i wr => ∃ k : Nat, k ≤ l.length ∧ i = .int .i64 k ∧ ov = .int .i64 (sglO l k) ∧ nv = .int .i64 (sglN l k) ∧ ∃ y : Later W, wr = y.w) (fun _ _ i _ => l.length - (intOf i).toNat)
  case atStart => exact ⟨0, Nat.zero_le _, rfl, rfl, rfl, x, rfl⟩
  case round =>
    clear x
    obtain ⟨k, hk, rfl, rfl, rfl, x, rfl⟩ := hrel
    by_cases hlt : k < l.length
    · obtain ⟨b, o, rfl, hb, c0⟩ := hI.out k hlt
      have hO : Hid (sglO l (k + 1) = if nth l k = true then (k : Int) else sglO l k) := Lib.hid rfl
      have hN : Hid (sglN l (k + 1) = if nth l k = true then sglN l k + 1 else sglN l k) := Lib.hid rfl
      have hb0 := hbd.out k
      obtain ⟨m, hm⟩ : ∃ m, m = sglN l k := ⟨_, rfl⟩
      rw [← hm] at hN hb0 ⊢
      clear hm
      cases hA : nth l k
      · rw [hA] at c0
        go_wp2
        go_roundw
        case rel => exact ⟨k + 1, by omega, by go_num, by rw [hO.out, hA, if_neg (by decide)], by rw [hN.out, hA, if_neg (by decide)], x, rfl⟩
        case measure => simp [intOf]; omega
      · rw [hA] at c0
        go_wp2
        go_roundw
        case rel => exact ⟨k + 1, by omega, by go_num, by rw [hO.out, hA, if_pos rfl], by rw [hN.out, hA, if_pos rfl], x, rfl⟩
        case measure => simp [intOf]; omega
    · obtain rfl : k = l.length := by omega
      by_cases h1 : sglN l l.length = 1
      · have hfin := Lib.hid (show sgl l = sglO l l.length by unfold sgl; rw [if_pos h1])
        rw [h1]
        clear h1
        go_wp2
        go_ret
        exact ⟨by rw [hfin.out]; rfl, x, rfl⟩
      · have hfin := Lib.hid (show sgl l = -1 by unfold sgl; rw [if_neg h1])
        have hne : (sglN l l.length != 1) = true := by simp [h1]
        clear h1
        go_wp2
        go_ret
        exact ⟨by rw [hfin.out]; rfl, x, rfl⟩
end Go.Proofs.Ytmpkbolabdmkkaa
