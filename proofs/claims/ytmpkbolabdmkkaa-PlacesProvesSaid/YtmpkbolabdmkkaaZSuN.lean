/- CONTRACT of the law's wide. -/
import Derived.Test.YtmpkbolabdmkkaaZSuD
import Derived.Test.YtmpkbolabdmkkaaZk
namespace Go.Proofs.Ytmpkbolabdmkkaa
open Go.RowKit

set_option maxRecDepth 100000 in
set_option maxHeartbeats 1000000 in
theorem pwide_core {W : World} (x : Later W) (k : Value) (n : Nd) (m : Int) (h0 : 0 ≤ m) (hm : m ≤ 1000000) (hk : IsNd W k n)
    (IH : ∀ z, z ∈ n.kids → ∀ (V : World) (u : Value) (m' : Int), 0 ≤ m' → m' ≤ 1000000 → IsNd V u z → ∀ y : Later V, Calls Try.prog 58 #[.agg #[.int .i64 z.kind, .int .i64 z.index, u], .int .i64 m'] y.w (Ends V (.int .i64 (wideN z m')))) :
    Calls Try.prog 58 #[.agg #[.int .i64 n.kind, .int .i64 n.index, k], .int .i64 m] x.w (Ends W (.int .i64 (wideN n m))) := by
  obtain ⟨kN, hkN⟩ : ∃ q, n.kind = q := ⟨_, rfl⟩
  obtain ⟨kI, hkI⟩ : ∃ q, n.index = q := ⟨_, rfl⟩
  rw [hkN, hkI]
  clear hkN hkI
  obtain ⟨wv, hwv⟩ : ∃ q, wideN n m = q := ⟨_, rfl⟩
  have hst : wideL (n.kids.drop 0) m 1 = wv := by rw [List.drop_zero, ← wideN_kids]; exact hwv
  rw [hwv]
  clear hwv
  replace IH := Lib.hid IH
  go_enter Try.func58, Try.ntmps58
  go_upto_region 1 with (fail)
  obtain ⟨W1, x1, e1, hb1, s1, p0, p1, p2⟩ := enter3 x (.int .i64 kN) (.int .i64 kI) k 64
  rw [e1]
  clear e1
  obtain ⟨b2, hB2⟩ : ∃ b, x.w.heap.size = b := ⟨_, rfl⟩
  rw [hB2] at p0 p1 p2 s1 ⊢
  clear hB2 x
  obtain ⟨ak, ck, rfl, lk, hkids⟩ := (hk.below hb1).opened
  clear hk
  have hF : Hid (∀ y : Later W1, Ends W (.int .i64 wv) (.returned (.int .i64 wv)) y.w) := Lib.hid (fun y => ⟨rfl, y.down hb1⟩)
  replace hst := Lib.hid hst
  go_wp2
  go_loopw [5, 6] (fun s i wr => ∃ j : Nat, j ≤ n.kids.length ∧ i = .int .i64 j ∧ ∃ sv : Int, s = .int .i64 sv ∧ 1 ≤ sv ∧ sv ≤ m + 1 ∧ Hid (wideL (n.kids.drop j) m sv = wv) ∧ ∃ y : Later W1, wr = y.w) (fun _ i _ => n.kids.length - (intOf i).toNat)
  case atStart => exact ⟨0, Nat.zero_le _, rfl, 1, rfl, by omega, by omega, hst, x1, rfl⟩
  case round =>
    obtain ⟨j, hj, rfl, sv, rfl, h1, h2, hW, x, rfl⟩ := hrel
    by_cases hlt : j < n.kids.length
    · by_cases hs : sv ≤ m
      · obtain ⟨b, o, rfl, hb, u, c0, c1, c2, hu⟩ := hkids.out j hlt
        have hIH := Lib.hid (IH.out (nth n.kids j) (nth_mem hlt) W1 u (m - sv) (by omega) (by omega) hu)
        have hbd := (wideN_bd (nth n.kids j) (m - sv) (by omega))
        have hdr := wideL_drop hlt hs
        obtain ⟨zk, hzk⟩ : ∃ q, (nth n.kids j).kind = q := ⟨_, rfl⟩
        obtain ⟨zi, hzi⟩ : ∃ q, (nth n.kids j).index = q := ⟨_, rfl⟩
        obtain ⟨zw, hzw⟩ : ∃ q, wideN (nth n.kids j) (m - sv) = q := ⟨_, rfl⟩
        rw [hzk] at c0 hIH
        rw [hzi] at c1 hIH
        rw [hzw] at hIH hbd hdr
        have g1 := hbd.1
        have g2 := hbd.2.1
        replace hW : Hid (wideL (n.kids.drop (j + 1)) m (sv + zw) = wv) := Lib.hid (by rw [← hdr]; exact hW.out)
        clear hzk hzi hzw hu hbd hdr
        go_wp2_with (go_at_call 58; refine (hIH.out x).mono ?_; rintro e w' ⟨rfl, x, rfl⟩)
        go_roundw
        case rel => exact ⟨j + 1, by omega, by go_num, sv + zw, by go_num, by omega, by omega, hW, x, rfl⟩
        case measure => simp [intOf]; omega
      · obtain rfl : sv = wv := by have := hW.out; rw [wideL_stop _ (by omega)] at this; exact this
        go_wp2
        go_ret; exact hF.out x
    · obtain rfl : j = n.kids.length := by omega
      obtain rfl : sv = wv := by have := hW.out; rw [List.drop_length] at this; exact this
      go_wp2
      go_ret; exact hF.out x
theorem pwide {W : World} (x : Later W) (k : Value) (n : Nd) (m : Int) (h0 : 0 ≤ m) (hm : m ≤ 1000000) (hk : IsNd W k n) :
    Calls Try.prog 58 #[.agg #[.int .i64 n.kind, .int .i64 n.index, k], .int .i64 m] x.w (Ends W (.int .i64 (wideN n m))) :=
  pwide_core x k n m h0 hm hk (fun z _ V u m' a b c y => pwide y u z m' a b c)
termination_by SizeOf.sizeOf n
decreasing_by exact nd_size n z (by assumption)
end Go.Proofs.Ytmpkbolabdmkkaa
