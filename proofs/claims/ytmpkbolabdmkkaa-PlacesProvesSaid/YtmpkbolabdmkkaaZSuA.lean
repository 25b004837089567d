/- CONTRACTS of places' twin and of broken's closure. -/
import Derived.Test.YtmpkbolabdmkkaaZe
import Derived.Test.YtmpkbolabdmkkaaZk
namespace Go.Proofs.Ytmpkbolabdmkkaa
open Go.RowKit

theorem find_range {n k : Nat} {P : Nat → Bool} (hk : k < n) (h : P k = true) (hno : ∀ i, i < k → P i = false) : (List.range n).find? P = some k :=
  List.find?_range_eq_some.2 ⟨h, List.mem_range.2 hk, fun j hj => by rw [hno j hj]; rfl⟩
theorem find_rangeN {n : Nat} {P : Nat → Bool} (hno : ∀ i, i < n → P i = false) : (List.range n).find? P = none :=
  List.find?_range_eq_none.2 fun j hj => by rw [hno j hj]; rfl
def twI (p : Prob) (c : List Int) : Int := match twinO p c with | some i => (i : Nat) | none => 0
def twB (p : Prob) (c : List Int) : Bool := (twinO p c).isSome
theorem tw_yes {p : Prob} {c : List Int} {k : Nat} (hk : k < c.length - 1) (h : twinTo p c k = true) (hno : ∀ i, i < k → twinTo p c i = false) : twI p c = k ∧ twB p c = true := by
  unfold twI twB twinO; rw [find_range hk h hno]; exact ⟨rfl, rfl⟩
theorem tw_no {p : Prob} {c : List Int} (hno : ∀ i, i < c.length - 1 → twinTo p c i = false) : twI p c = 0 ∧ twB p c = false := by
  unfold twI twB twinO; rw [find_rangeN hno]; exact ⟨rfl, rfl⟩

set_option maxRecDepth 100000 in
set_option maxHeartbeats 1000000 in
theorem ptwin {W : World} (x : Later W) (v0 v1 v2 vf : Value) (p : Prob) (f : List Int) (hp : IsProb W v0 v1 v2 p) (hf : IsInts W vf f) (hlen : f.length ≤ p.opts.length) (hfill : ∀ i, i < f.length → 0 ≤ nth f i ∧ nth f i < (nth p.opts i).length) :
    Calls Try.prog 148 #[.agg #[v0, v1, v2], vf] x.w (Ends W (.tuple #[.int .i64 (twI p f), .bool (twB p f)])) := by
  replace hfill := Lib.hid hfill
  have hyes := Lib.hid (fun k => @tw_yes p f k)
  have hno' := Lib.hid (@tw_no p f)
  go_enter Try.func148, Try.ntmps148
  go_upto_region 1 with (fail)
  obtain ⟨W1, x1, e1, hb1, s1, p0, p1, p2⟩ := enter3 x v0 v1 v2 26
  rw [e1]; clear e1
  obtain ⟨ao, co, rfl, lo, hopts⟩ := (hp.opts.below hb1).opened
  obtain ⟨af, cf, rfl, lf, hfs⟩ := (hf.below hb1).opened
  clear hp hf
  go_wp2
  go_loopw [13] (fun i wr => ∃ k : Nat, k ≤ f.length - 1 ∧ i = .int .i64 k ∧ (∃ y : Later W1, wr = y.w) ∧ (∀ i : Nat, i < k → twinTo p f i = false)) (fun i _ => f.length - (intOf i).toNat)
  case atStart => exact ⟨0, Nat.zero_le _, rfl, ⟨x1, rfl⟩, fun i hi => absurd hi (Nat.not_lt_zero _)⟩
  case round =>
    obtain ⟨k, hk, rfl, ⟨x, rfl⟩, hno⟩ := hrel
    replace hno := Lib.hid hno
    by_cases hlt : k < f.length - 1
    · have hlt' : (k : Int) < (f.length : Int) - 1 := by omega
      have hko : k < p.opts.length := by omega
      have hfk := hfill.out k (by omega)
      have hfl := hfill.out (f.length - 1) (by omega)
      obtain ⟨bf, of, rfl, hbf, c0⟩ := hfs.out k (by omega)
      obtain ⟨_, _, he, _, c1⟩ := hfs.out (f.length - 1) (by omega)
      cases he
      obtain ⟨bo, oo, rfl, hbo, uo, co0, hO⟩ := hopts.out k hko
      obtain ⟨_, _, he, _, ul, cl0, hOl⟩ := hopts.out (f.length - 1) (by omega)
      cases he
      obtain ⟨av, cv, rfl, lv, hV⟩ := hO.opened
      obtain ⟨al, cl, rfl, ll, hL⟩ := hOl.opened
      obtain ⟨bv, ov, rfl, hbv, d0, _⟩ := hV.out (nth f k).toNat (by omega)
      obtain ⟨bl, ol, rfl, hbl, d1, _⟩ := hL.out (nth f (f.length - 1)).toNat (by omega)
      have e0 : (nth (nth p.opts k) (nth f k).toNat).piece = pieceAt p f k := rfl
      have e1 : (nth (nth p.opts (f.length - 1)) (nth f (f.length - 1)).toNat).piece = pieceAt p f (f.length - 1) := rfl
      have hT : Hid (twinTo p f k = (decide (0 < pieceAt p f k) && (pieceAt p f k == pieceAt p f (f.length - 1)))) := Lib.hid (by unfold twinTo; rw [Bool.decide_and]; rfl)
      rw [e0] at d0
      rw [e1] at d1
      have hsub : ((f.length : Int) - 1).toNat = f.length - 1 := by omega
      obtain ⟨n1, hn1⟩ : ∃ n, n = f.length - 1 := ⟨_, rfl⟩
      rw [← hn1] at hsub c1 cl0 d1 hT hfl
      obtain ⟨A, hA⟩ : ∃ A, pieceAt p f k = A := ⟨_, rfl⟩
      obtain ⟨B, hB⟩ : ∃ B, pieceAt p f n1 = B := ⟨_, rfl⟩
      rw [hA] at d0 hT
      rw [hB] at d1 hT
      have hyk := Lib.hid (hyes.out k (by omega))
      replace hA := Lib.hid hA
      replace hB := Lib.hid hB
      have hn2 : (f.length : Int) - 1 = (n1 : Int) := by omega
      replace hn1 := Lib.hid hn1
      clear hV hL hO hOl e0 e1
      cases h1 : decide (0 < A)
      · rw [h1, Bool.false_and] at hT
        go_wp2
        refine wp_region_later x (by kernel_rfl) (by kernel_rfl) ?_
        repeat (go_big_quiet_step (fail))
        refine wpQuiet_nil ?_
        rintro _ ⟨x, rfl⟩
        go_wp2
        refine wp_region_later x (by kernel_rfl) (by kernel_rfl) ?_
        repeat (go_big_quiet_step (fail))
        refine wpQuiet_nil ?_
        rintro _ ⟨x, rfl⟩
        go_wp2
        go_roundw
        case rel => exact ⟨k + 1, by omega, by go_num, ⟨x, rfl⟩, all_step hno.out hT.out⟩
        case measure => simp [intOf]; omega
      · rw [h1, Bool.true_and] at hT
        cases h2 : (A == B)
        · rw [h2] at hT
          go_wp2
          refine wp_region_later x (by kernel_rfl) (by kernel_rfl) ?_
          repeat (go_big_quiet_step (fail))
          refine wpQuiet_nil ?_
          rintro _ ⟨x, rfl⟩
          go_wp2
          refine wp_region_later x (by kernel_rfl) (by kernel_rfl) ?_
          repeat (go_big_quiet_step (fail))
          refine wpQuiet_nil ?_
          rintro _ ⟨x, rfl⟩
          go_wp2
          go_roundw
          case rel => exact ⟨k + 1, by omega, by go_num, ⟨x, rfl⟩, all_step hno.out hT.out⟩
          case measure => simp [intOf]; omega
        · rw [h2] at hT
          have hr := hyk.out hT.out hno.out
          replace hr := Lib.hid hr
          go_wp2
          refine wp_region_later x (by kernel_rfl) (by kernel_rfl) ?_
          repeat (go_big_quiet_step (fail))
          refine wpQuiet_nil ?_
          rintro _ ⟨x, rfl⟩
          go_wp2
          refine wp_region_later x (by kernel_rfl) (by kernel_rfl) ?_
          repeat (go_big_quiet_step (fail))
          refine wpQuiet_nil ?_
          rintro _ ⟨x, rfl⟩
          go_wp2
          go_ret2; exact ⟨by rw [hr.out.1, hr.out.2]; rfl, x.down hb1⟩
    · have hge : ¬ ((k : Int) < (f.length : Int) - 1) := by omega
      have hk2 : k = f.length - 1 := by omega
      have hr := hno'.out (fun i hi => hno.out i (by omega))
      replace hr := Lib.hid hr
      go_wp2
      go_ret2; exact ⟨by rw [hr.out.1, hr.out.2]; rfl, x.down hb1⟩

/-- the options of a pane that the first panes leave: from, to -/
def rngLo (c : List Int) (i : Nat) : Int := if i < c.length then nth c i else 0
def rngHi (p : Prob) (c : List Int) (i : Nat) : Int := if i < c.length then nth c i + 1 else (nth p.opts i).length

set_option maxRecDepth 100000 in
set_option maxHeartbeats 1000000 in
theorem psome {W : World} (x : Later W) (v0 v1 v2 vf : Value) (p : Prob) (f : List Int) (i b5 b3 : Nat) (hp : IsProb W v0 v1 v2 p) (hf : IsInts W vf f) (hfill : ∀ i, i < f.length → 0 ≤ nth f i ∧ nth f i < (nth p.opts i).length) (h300 : ∀ i, i < p.opts.length → (nth p.opts i).length ≤ 300) (hi : i < p.opts.length)
    (c5 : ∀ y : Later W, y.w.cell? ⟨b5, 0, none⟩ = some vf) (c3 : ∀ y : Later W, y.w.cell? ⟨b3, 1, none⟩ = some v1) :
    Calls Try.prog 167 #[.int .i64 i, .pointer (some ⟨b5, 0, none⟩), .pointer (some ⟨b3, 0, none⟩)] x.w (Ends W (.tuple #[.int .i64 (rngLo f i), .int .i64 (rngHi p f i)])) := by
  obtain ⟨ao, co, rfl, lo, hopts⟩ := hp.opts.opened
  obtain ⟨af, cf, rfl, lf, hfs⟩ := hf.opened
  clear hp hf
  have h3 := h300 i hi
  go_enter Try.func167, Try.ntmps167
  by_cases hlt : i < f.length
  · have hL : Hid (rngLo f i = nth f i ∧ rngHi p f i = nth f i + 1) := Lib.hid ⟨if_pos hlt, if_pos hlt⟩
    have hfk := hfill i hlt
    obtain ⟨bf, of, rfl, hbf, c0⟩ := hfs.out i hlt
    obtain ⟨F, hF⟩ : ∃ F, nth f i = F := ⟨_, rfl⟩
    rw [hF] at hL c0 hfk
    replace hF := Lib.hid hF
    clear hfill
    go_wp2
    refine wp_region_later x (by kernel_rfl) (by kernel_rfl) ?_
    repeat (go_big_quiet_step (fail))
    refine wpQuiet_nil ?_
    rintro _ ⟨x, rfl⟩
    go_wp2
    go_ret2; exact ⟨by rw [hL.out.1, hL.out.2]; rfl, x, rfl⟩
  · have hL : Hid (rngLo f i = 0 ∧ rngHi p f i = (nth p.opts i).length) := Lib.hid ⟨if_neg hlt, if_neg hlt⟩
    obtain ⟨bo, oo, rfl, hbo, uo, co0, hO⟩ := hopts.out i hi
    obtain ⟨av, cv, rfl, lv, hV⟩ := hO.opened
    clear hfill hO hV
    go_wp2
    refine wp_region_later x (by kernel_rfl) (by kernel_rfl) ?_
    repeat (go_big_quiet_step (fail))
    refine wpQuiet_nil ?_
    rintro _ ⟨x, rfl⟩
    go_wp2
    go_ret2; exact ⟨by rw [hL.out.1, hL.out.2]; rfl, x, rfl⟩
end Go.Proofs.Ytmpkbolabdmkkaa
