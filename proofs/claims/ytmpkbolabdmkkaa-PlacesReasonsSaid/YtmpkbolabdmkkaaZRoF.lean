/- CONTRACT of the reference's hitting. -/
import Derived.Test.YtmpkbolabdmkkaaZRoE
import Derived.Test.YtmpkbolabdmkkaaZPmB
namespace Go.Proofs.Ytmpkbolabdmkkaa
open Go.RowKit

/-- a set has one of each list -/
def hitsAll (L : List Nat) (s : Nat) : Bool := decide (∀ j, j < L.length → nth L j &&& s ≠ 0)
theorem hitsAll_no {L : List Nat} {s j : Nat} (hj : j < L.length) (h : nth L j &&& s = 0) : hitsAll L s = false := by
  unfold hitsAll; rw [decide_eq_false_iff_not]; exact fun h' => h' j hj h
theorem hitsAll_yes {L : List Nat} {s : Nat} (h : ∀ j, j < L.length → nth L j &&& s ≠ 0) : hitsAll L s = true := by
  unfold hitsAll; rw [decide_eq_true_iff]; exact h
/-- the least of the first sets that hit -/
def hitBest (its : List Int) (L : List Nat) : Nat → List Int × Bool
  | 0 => ([], false)
  | s + 1 => if hitsAll L s = true ∧ ((hitBest its L s).2 = false ∨ smallB (listed its s) (hitBest its L s).1 = true) then (listed its s, true) else hitBest its L s
/-- numbers, of naturals -/
def natL (L : List Nat) : List Int := L.map fun m : Nat => (m : Int)
theorem natL_len (L : List Nat) : (natL L).length = L.length := by simp [natL]
theorem nth_natL {L : List Nat} {i : Nat} (h : i < L.length) : nth (natL L) i = ((nth L i : Nat) : Int) := by
  rw [nth_eq _ _ (by rw [natL_len]; exact h), nth_eq _ _ h]; simp [natL]

def EndsHit (W : World) (l : List Int) (b : Bool) (e : Ending) (w' : World) : Prop := ∃ v, e = .returned (.tuple #[v, .bool b]) ∧ ∃ y : Later W, w' = y.w ∧ IsInts y.w v l

set_option maxRecDepth 100000 in
set_option maxHeartbeats 2000000 in
theorem rhitting {W : World} (x : Later W) (vi v : Value) (its : List Int) (L : List Nat) (hi : IsInts W vi its) (h : IsInts W v (natL L)) (h16 : its.length ≤ 16) (hL : ∀ j, j < L.length → nth L j < 65536) :
    Calls Try.prog 132 #[vi, v] x.w (EndsHit W (hitBest its L (2 ^ its.length)).1 (hitBest its L (2 ^ its.length)).2) := by
  have HI := Lib.hid hi
  obtain ⟨Ai, ci, rfl, ll, _⟩ := hi.opened
  obtain ⟨A, c, rfl, lL, hM⟩ := h.opened
  rw [natL_len] at lL hM ⊢
  clear hi h
  obtain ⟨N, hN⟩ : ∃ N, N = 2 ^ its.length := ⟨_, rfl⟩
  have hpow : (2 : Int) ^ its.length = (N : Int) := by rw [hN]; simp
  have hN2 : N ≤ 65536 := hN ▸ Nat.pow_le_pow_right (show 0 < 2 by decide) h16
  rw [← hN]
  replace hN := Lib.hid hN
  replace hL := Lib.hid hL
  go_enter Try.func132, Try.ntmps132
  go_wp2
  go_loopw [6, 7, 8] (fun bv fv sv wr => ∃ s : Nat, s ≤ N ∧ sv = .int .i64 s ∧ fv = .bool (hitBest its L s).2 ∧ ∃ y : Later W, wr = y.w ∧ IsInts y.w bv (hitBest its L s).1) (fun _ _ sv _ => N - (intOf sv).toNat)
  case atStart => exact ⟨0, Nat.zero_le _, rfl, rfl, x, rfl, isInts_nil _⟩
  case round =>
    clear x
    obtain ⟨s, hs, rfl, rfl, x, rfl, hb⟩ := hrel
    have HBs := Lib.hid hb
    obtain ⟨ab, cb, rfl, _, _⟩ := hb
    by_cases hlt : s < N
    · have HS : Hid (hitBest its L (s + 1) = if hitsAll L s = true ∧ ((hitBest its L s).2 = false ∨ smallB (listed its s) (hitBest its L s).1 = true) then (listed its s, true) else hitBest its L s) := Lib.hid rfl
      have hhy := Lib.hid (@hitsAll_yes L s)
      go_wp2
      go_loopw [9, 10] (fun ov iv wr => ∃ i : Nat, i ≤ L.length ∧ iv = .int .i64 i ∧ ∃ b : Bool, ov = .bool b ∧ (b = true → ∀ j, j < i → nth L j &&& s ≠ 0) ∧ (b = false → hitsAll L s = false) ∧ wr = x.w) (fun _ iv _ => L.length - (intOf iv).toNat)
      case atStart => exact ⟨0, Nat.zero_le _, rfl, true, rfl, fun _ j hj => absurd hj (Nat.not_lt_zero _), fun h => (by cases h), rfl⟩
      case round =>
        obtain ⟨i, hil, rfl, b, rfl, hz1, hz2, rfl⟩ := hrel
        replace hz1 := Lib.hid hz1
        replace hz2 := Lib.hid hz2
        have hch := Lib.hid (rchosen (Later.now x.w) _ its s (by omega) (HI.out.below x.h) h16)
        cases b
        · have hA := hz2.out rfl
          have HS2 : Hid (hitBest its L (s + 1) = hitBest its L s) := Lib.hid (by rw [HS.out, if_neg (by simp [hA])])
          by_cases hlt2 : i < L.length
          all_goals
            go_wp2_with (go_at_call 160; refine hch.out.mono ?_; rintro e w' ⟨u, rfl, y, rfl, hI⟩; obtain ⟨a5, c5, rfl, hx1, hx2⟩ := hI; clear hx1 hx2)
            go_roundw
            case rel => exact ⟨s + 1, by omega, by go_num, by rw [HS2.out], x.up y, rfl, by rw [HS2.out]; exact HBs.out.below y.h⟩
            case measure => simp [intOf]; omega
        · by_cases hlt2 : i < L.length
          · obtain ⟨bm, om, rfl, hbm, d0⟩ := hM.out i hlt2
            rw [nth_natL hlt2] at d0
            have hm := hL.out i hlt2
            have hand := i64_and_nat (nth L i) s (by omega) (by omega)
            obtain ⟨M, hMe⟩ : ∃ M, nth L i &&& s = M := ⟨_, rfl⟩
            rw [hMe] at hand
            cases hZ : ((M : Int) != 0)
            · have hM0 : M = 0 := by simpa using hZ
              have hbad : Hid (hitsAll L s = false) := Lib.hid (hitsAll_no hlt2 (by rw [hMe, hM0]))
              replace hMe := Lib.hid hMe
              clear hM0
              go_wp2
              go_roundw
              case rel => exact ⟨i + 1, by omega, by go_num, false, rfl, fun h => (by cases h), fun _ => hbad.out, by first | rfl | trivial⟩
              case measure => simp [intOf]; omega
            · have hM0 : M ≠ 0 := by simpa using hZ
              replace hMe := Lib.hid hMe
              go_wp2
              go_roundw
              case rel => exact ⟨i + 1, by omega, by go_num, true, rfl, fun _ => all_step (hz1.out rfl) (by rw [hMe.out]; exact hM0), fun h => (by cases h), by first | rfl | trivial⟩
              case measure => simp [intOf]; omega
          · obtain rfl : i = L.length := by omega
            have hA := hhy.out (hz1.out rfl)
            obtain ⟨fb, hfb⟩ : ∃ b, (hitBest its L s).2 = b := ⟨_, rfl⟩
            obtain ⟨sb, hsb⟩ : ∃ b, smallB (listed its s) (hitBest its L s).1 = b := ⟨_, rfl⟩
            rw [hfb, hsb] at HS
            rw [hfb]
            have hsm := Lib.hid (fun (y : Later x.w) (u : Value) (hu : IsInts y.w u (listed its s)) => rsmaller (Later.now y.w) u _ (listed its s) (hitBest its L s).1 hu (HBs.out.below y.h))
            rw [hsb] at hsm
            replace hfb := Lib.hid hfb
            replace hsb := Lib.hid hsb
            replace hA := Lib.hid hA
            go_upto_region 12 with (go_at_call 160; refine hch.out.mono ?_; rintro e w' ⟨u, rfl, y, rfl, hI⟩; have IS := Lib.hid hI; have hs2 := Lib.hid (hsm.out y u hI); obtain ⟨a5, c5, rfl, hx1, hx2⟩ := hI; clear hx1 hx2)
            cases fb
            · have HS2 : Hid (hitBest its L (s + 1) = (listed its s, true)) := Lib.hid (by rw [HS.out, if_pos ⟨hA.out, .inl rfl⟩])
              go_wp2
              go_roundw
              case rel => exact ⟨s + 1, by omega, by go_num, by rw [HS2.out], x.up y, rfl, by rw [HS2.out]; exact IS.out⟩
              case measure => simp [intOf]; omega
            · cases sb
              · have HS2 : Hid (hitBest its L (s + 1) = hitBest its L s) := Lib.hid (by rw [HS.out, if_neg (by simp)])
                go_wp2_with (go_at_call 161; refine hs2.out.mono ?_; rintro e w' ⟨rfl, y2, rfl⟩)
                go_roundw
                case rel => exact ⟨s + 1, by omega, by go_num, by rw [HS2.out, hfb.out], (x.up y).up y2, rfl, by rw [HS2.out]; exact (HBs.out.below y.h).below y2.h⟩
                case measure => simp [intOf]; omega
              · have HS2 : Hid (hitBest its L (s + 1) = (listed its s, true)) := Lib.hid (by rw [HS.out, if_pos ⟨hA.out, .inr rfl⟩])
                go_wp2_with (go_at_call 161; refine hs2.out.mono ?_; rintro e w' ⟨rfl, y2, rfl⟩)
                go_roundw
                case rel => exact ⟨s + 1, by omega, by go_num, by rw [HS2.out], (x.up y).up y2, rfl, by rw [HS2.out]; exact IS.out.below y2.h⟩
                case measure => simp [intOf]; omega
    · obtain rfl : s = N := by omega
      go_wp2
      go_ret2
      exact ⟨_, rfl, x, rfl, HBs.out⟩
end Go.Proofs.Ytmpkbolabdmkkaa
