/- CONTRACT of PlacesClash. -/
import Derived.Test.YtmpkbolabdmkkaaZLawD
import Derived.Test.YtmpkbolabdmkkaaZPmB
import Derived.Test.YtmpkbolabdmkkaaZPoC
import Derived.Test.YtmpkbolabdmkkaaZPlZ
import Derived.Test.YtmpkbolabdmkkaaZCli
import Derived.Test.YtmpkbolabdmkkaaZLawI
namespace Go.Proofs.Ytmpkbolabdmkkaa
open Go.RowKit

set_option maxRecDepth 100000 in
set_option maxHeartbeats 1000000 in
theorem lchosen {W : World} (x : Later W) (v : Value) (its : List Int) (s : Nat) (hs : s < 65536) (h : IsInts W v its) (h16 : its.length ≤ 16) : Calls Try.prog 29 #[v, .int .i64 s] x.w (EndsInts W (listed its s)) := by
  obtain ⟨A, c, rfl, ll, hI⟩ := h.opened
  clear h
  go_enter Try.func29, Try.ntmps29
  go_wp2
  go_loopw [5, 6] (fun out i wr => ∃ k : Nat, k ≤ its.length ∧ i = .int .i64 k ∧ ∃ y : Later W, wr = y.w ∧ y.w.ownsRow W.heap.size 3 1 out (listedTo its s k).length ((listedTo its s k).map (Value.int .i64))) (fun _ i _ => its.length - (intOf i).toNat)
  case atStart => exact ⟨0, Nat.zero_le _, rfl, x, rfl, World.ownsRow_nil _ _ _ _⟩
  case round =>
    obtain ⟨k, hk, rfl, x, rfl, hown⟩ := hrel
    by_cases hlt : k < its.length
    · obtain ⟨bk, o, rfl, hbk, c0⟩ := hI.out k hlt
      have hll := listedTo_len its s k
      have hle := cnt_le k s
      have hln : (listedTo its s k).length ≤ 16 := by omega
      have HS := Lib.hid (listedTo_succ its s k)
      clear hll hle
      cases hT : s.testBit k
      · have hbit := bit_0 hs hT
        go_wp2
        go_roundw
        case rel => exact ⟨k + 1, by omega, by go_num, x, rfl, by rw [HS.out, if_neg (by simp [hT])]; exact hown⟩
        case measure => simp [intOf]; omega
      · have hbit := bit_1 hs hT
        go_wp2_with (at_builtin; refine wpList_app1 x 22 3 _ 8 Try.info3 rfl Try.underlying22 rfl _ _ rfl _ _ _ (by rfl) hown _ (by rfl) (by rfl) (by omega) (by omega) ?_; intro v' x hown' hgr)
        go_roundw
        case rel => exact ⟨k + 1, by omega, by go_num, x, rfl, owns_step hown' (by rw [HS.out, if_pos hT])⟩
        case measure => simp [intOf]; omega
    · obtain rfl : k = its.length := by omega
      obtain ⟨A', c', rfl⟩ := owns_slice hown
      have hll := listedTo_len its s its.length
      have hle := cnt_le its.length s
      go_wp2
      go_ret
      exact ⟨_, rfl, x, rfl, isInts_of_owns hown (by omega)⟩

set_option maxRecDepth 100000 in
set_option maxHeartbeats 8000000 in
theorem lawClash {W : World} (x : Later W) (v0 v1 v2 : Value) (p : Prob) (pane o : Int) (hp : IsProb W v0 v1 v2 p) : Calls Try.prog 4 #[.agg #[v0, v1, v2], .int .i64 pane, .int .i64 o] x.w (Ends W (.bool true)) := by
  go_enter Try.func4, Try.ntmps4
  go_upto_region 1 with (fail)
  obtain ⟨W1, x1, e1, hb1, s1, p0, p1, p2⟩ := enter3 x v0 v1 v2 26
  rw [e1]; clear e1
  have HP := Lib.hid (hp.below hb1)
  obtain ⟨ap, cp, rfl, lp, _⟩ := hp.panes.opened
  obtain ⟨ao, co, rfl, lo, _⟩ := hp.opts.opened
  obtain ⟨ar, cr, rfl, lr, _⟩ := hp.rules.opened
  clear hp
  go_upto_region 2 with (go_at_call 14; refine (lawake x1).mono ?_; rintro e w' ⟨rfl, x1, rfl⟩)
  go_upto_region 3 with (go_at_call 26; refine (rItems x1 _ _ _ p HP.out).mono ?_; rintro e w' ⟨u, rfl, y1, rfl, hI⟩; have I0 := Lib.hid hI; obtain ⟨a0, c0, rfl, hx1, hx2⟩ := hI; clear hx1 hx2)
  replace HP := Lib.hid (HP.out.below y1.h)
  replace p0 := Later.cells y1.h p0
  replace p1 := Later.cells y1.h p1
  replace p2 := Later.cells y1.h p2
  replace s1 := Later.sizes y1.h s1
  have hB := below_then hb1 y1
  show Code.wp _ _ _ _ (Later.now y1.w).w
  generalize Later.now y1.w = x1
  have hbase : Hid (∀ y : Later y1.w, Ends W (.bool true) (.returned (.bool true)) y.w) := Lib.hid (fun y => ⟨rfl, ⟨y.w, below_then hB y⟩, rfl⟩)
  have hV := Lib.hid (fun y : Later y1.w => rValid y _ _ _ p HP.out)
  go_wp2_with (fail)
  refine (llight x1 _ _ _ p HP.out).mono ?_
  rintro e w' ⟨bs, rfl, x1, rfl⟩
  cases bs
  · go_wp2
    go_ret; exact hbase.out _
  cases hv : validP p
  · rw [hv] at hV
    go_wp2_with (go_at_call 27; refine (hV.out x1).mono ?_; rintro e w' ⟨rfl, x1, rfl⟩)
    go_ret; exact hbase.out _
  rw [hv] at hV
  by_cases g6 : 6 < (items p).length
  · go_wp2_with (go_at_call 27; refine (hV.out x1).mono ?_; rintro e w' ⟨rfl, x1, rfl⟩)
    go_ret; exact hbase.out _
  by_cases g1 : pane < 0
  · go_wp2_with (go_at_call 27; refine (hV.out x1).mono ?_; rintro e w' ⟨rfl, x1, rfl⟩)
    go_ret; exact hbase.out _
  by_cases g2 : (p.opts.length : Int) ≤ pane
  · go_wp2_with (go_at_call 27; refine (hV.out x1).mono ?_; rintro e w' ⟨rfl, x1, rfl⟩)
    go_ret; exact hbase.out _
  by_cases g3 : o < 0
  · go_wp2_with (go_at_call 27; refine (hV.out x1).mono ?_; rintro e w' ⟨rfl, x1, rfl⟩)
    go_ret; exact hbase.out _
  obtain ⟨i, rfl⟩ := Int.eq_ofNat_of_zero_le (show 0 ≤ pane by omega)
  obtain ⟨q, rfl⟩ := Int.eq_ofNat_of_zero_le (show 0 ≤ o by omega)
  have hi : i < p.opts.length := by omega
  obtain ⟨_, _, hqq, _, hopts⟩ := HP.out.opts.opened
  cases hqq
  obtain ⟨bo, oo, rfl, hbo, uo, d0, hO⟩ := hopts.out i hi
  obtain ⟨av, cv, rfl, lv, _⟩ := hO.opened
  clear hO hopts
  by_cases g4 : (nth p.opts i).length ≤ q
  · go_wp2_with (go_at_call 27; refine (hV.out x1).mono ?_; rintro e w' ⟨rfl, x1, rfl⟩)
    go_ret; exact hbase.out _
  have hq : q < (nth p.opts i).length := by omega
  go_upto_region 5 with (go_at_call 27; refine (hV.out x1).mono ?_; rintro e w' ⟨rfl, x1, rfl⟩)
  clear d0 hbo lv g4 g1 g2 g3
  go_upto_region 6 with (go_at_call 24; refine (pReason x1 _ _ _ p i q HP.out).mono ?_; rintro e w' ⟨u, rfl, y2, rfl, hI⟩; have IR := Lib.hid hI; obtain ⟨a1, c1, rfl, hx1, hx2⟩ := hI; clear hx1 hx2)
  replace HP := Lib.hid (HP.out.below y2.h)
  replace I0 := Lib.hid (I0.out.below y2.h)
  replace p0 := Later.cells y2.h p0
  replace p1 := Later.cells y2.h p1
  replace p2 := Later.cells y2.h p2
  replace s1 := Later.sizes y2.h s1
  replace hbase := Lib.hid (fun y : Later y2.w => hbase.out (y2.up y))
  show Code.wp _ _ _ _ (Later.now y2.w).w
  generalize Later.now y2.w = x1
  go_upto_region 7 with (go_at_call 22; refine (pClash x1 _ _ _ p HP.out).mono ?_; rintro e w' ⟨u, rfl, y3, rfl, hI⟩; have IC := Lib.hid hI; obtain ⟨a2, c2, rfl, hx1, hx2⟩ := hI; clear hx1 hx2)
  replace HP := Lib.hid (HP.out.below y3.h)
  replace I0 := Lib.hid (I0.out.below y3.h)
  replace IR := Lib.hid (IR.out.below y3.h)
  replace p0 := Later.cells y3.h p0
  replace p1 := Later.cells y3.h p1
  replace p2 := Later.cells y3.h p2
  replace s1 := Later.sizes y3.h s1
  replace hbase := Lib.hid (fun y : Later y3.w => hbase.out (y3.up y))
  show Code.wp _ _ _ _ (Later.now y3.w).w
  generalize Later.now y3.w = x1
  by_cases h0 : largeE p = 0
  case neg =>
    have h2 : reasonE p i q = 2 ∧ clashE p = 2 := by
      have hl : largeE p = 2 := by rcases largeE_cases p with ⟨h, _⟩ | ⟨h, _⟩ | ⟨_, h⟩; exact absurd h h0; exact h; rw [hv] at h; cases h
      have ht : 65536 < total p := by
        rcases Nat.lt_or_ge 65536 (total p) with h | h
        · exact h
        · exact absurd (largeE_0.2 ⟨hv, h⟩) h0
      have hask : askE p (thereB p i q) = 2 := by unfold askE; rw [if_neg (by simp [hv]), there_of hv hi hq, if_neg (by simp), if_pos ht]
      exact ⟨by unfold reasonE; rw [if_pos (by simp [hask]), hask], by unfold clashE; rw [if_pos h0, hl]⟩
    rw [h2.1, h2.2]
    clear h2 h0
    go_wp2
    go_ret; exact hbase.out _
  have hRs := reason_spec hv h0 hi hq
  have hCs := clash_spec hv h0
  have hRat := Lib.hid (fun s hs => reason_at hv h0 hi hq (s := s) hs)
  have hCat := Lib.hid (fun s hs => clash_at hv h0 (s := s) hs)
  have hOnl := Lib.hid (fun s => sub_onlyE hv s)
  have hWq : Hid (∀ s, witE (subP p s) i q = 0 ∨ witE (subP p s) i q = 3) := Lib.hid (fun s => by
    rcases wit_cases (p := subP p s) (i := i) (o := q) hi hq (by rw [sub_large hv]; exact h0) with ⟨h, _⟩ | ⟨h, _⟩
    · exact .inl h
    · exact .inr h)
  have hFq : Hid (∀ s, firstE (subP p s) = 0 ∨ firstE (subP p s) = 72) := Lib.hid (fun s => by
    rcases first_cases (p := subP p s) (by rw [sub_large hv]; exact h0) with ⟨h, _⟩ | ⟨h, _⟩
    · exact .inl h
    · exact .inr h)
  have hR1 : Hid (reasonE p i q = 0 → ∃ b, b < 2 ^ (items p).length ∧ listed (items p) b = reasonL p i q) := Lib.hid (fun h => by
    rcases hRs with ⟨h1, _⟩ | ⟨_, _, b, hb, h3, _⟩
    · rw [h1] at h; cases h
    · exact ⟨b, hb, h3.symm⟩)
  have hC1 : Hid (clashE p = 0 → ∃ b, b < 2 ^ (items p).length ∧ listed (items p) b = clashL p) := Lib.hid (fun h => by
    rcases hCs with ⟨h1, _⟩ | ⟨_, _, b, hb, h3, _⟩
    · rw [h1] at h; cases h
    · exact ⟨b, hb, h3.symm⟩)
  have hR2 : (reasonE p i q = 3 ∧ witE p i q = 0) ∨ (reasonE p i q = 0 ∧ witE p i q = 3) := by
    rcases hRs with h | ⟨h1, h2, _⟩
    · exact .inl h
    · exact .inr ⟨h1, h2⟩
  have hC2 : (clashE p = 3 ∧ countV p ≠ 0) ∨ (clashE p = 0 ∧ countV p = 0) := by
    rcases hCs with h | ⟨h1, h2, _⟩
    · exact .inl h
    · exact .inr ⟨h1, h2⟩
  clear hRs hCs
  replace h0 := Lib.hid h0
  obtain ⟨n, hn⟩ : ∃ n, (items p).length = n := ⟨_, rfl⟩
  obtain ⟨S, hS⟩ : ∃ S, reasonL p i q = S := ⟨_, rfl⟩
  obtain ⟨C, hC⟩ : ∃ C, clashL p = C := ⟨_, rfl⟩
  obtain ⟨eR, heR⟩ : ∃ e, reasonE p i q = e := ⟨_, rfl⟩
  obtain ⟨eC, heC⟩ : ∃ e, clashE p = e := ⟨_, rfl⟩
  obtain ⟨wv, hwv⟩ : ∃ e, witE p i q = e := ⟨_, rfl⟩
  obtain ⟨cv', hcv⟩ : ∃ e, countV p = e := ⟨_, rfl⟩
  have hWc := Lib.hid (fun y : Later y3.w => pWitness y _ _ _ p i q HP.out)
  have hCc := Lib.hid (fun y : Later y3.w => pCount y _ _ _ p HP.out)
  rw [h0.out, hcv] at hCc
  rw [hwv] at hWc hR2
  rw [hcv] at hC2
  rw [hS] at IR hRat hR1 ⊢
  rw [hC] at IC hCat hC1 ⊢
  rw [heR] at hRat hR1 hR2 ⊢
  rw [heC] at hCat hC1 hC2 ⊢
  have h6 : n ≤ 6 := by omega
  rw [hn] at g6 ⊢
  have I0' := I0.out
  obtain ⟨_, _, hqq, _, _⟩ := I0'.opened
  rw [hn] at hqq
  cases hqq
  clear I0' 
  replace hn := Lib.hid hn
  clear hS hC heR heC hwv hcv
  generalize decide (6 < (n : Int)) = z1
  generalize decide ((i : Int) < 0) = z2
  -- GEN
  obtain ⟨N, hN⟩ : ∃ N, N = 2 ^ n := ⟨_, rfl⟩
  have hpow : (2 : Int) ^ n = (N : Int) := by rw [hN]; simp
  have hN1 : 1 ≤ N := hN ▸ Nat.two_pow_pos _
  have hN2 : N ≤ 64 := by have : 2 ^ n ≤ 2 ^ 6 := Nat.pow_le_pow_right (by decide) h6; omega
  replace hN := Lib.hid hN
  generalize decide ((p.opts.length : Int) ≤ (i : Int)) = z3
  generalize decide ((q : Int) < 0) = z4
  generalize decide (((nth p.opts i).length : Int) ≤ (q : Int)) = z5
  rcases hR2 with ⟨rfl, rfl⟩ | ⟨rfl, rfl⟩ <;> rcases hC2 with ⟨rfl, hcn⟩ | ⟨rfl, rfl⟩
  · have hcb : (cv' == 0) = false := by simp [hcn]
    clear hcn
    go_wp2_with (first | (go_at_call 16; refine (hWc.out x1).mono ?_; rintro e w' ⟨u, rfl, x2, rfl, hI⟩; obtain ⟨a3, c3, rfl, hx1, hx2⟩ := hI; clear hx1 hx2) | (go_at_call 28; refine (hCc.out x2).mono ?_; rintro e w' ⟨rfl, x3, rfl⟩))
    go_loopw [17, 18, 19] (fun ov tv bv wr => ∃ s : Nat, s ≤ N ∧ bv = .int .i64 s ∧ ov = .bool true ∧ tv = .bool true ∧ ∃ y : Later y3.w, wr = y.w) (fun _ _ bv _ => N - (intOf bv).toNat)
    case atStart => exact ⟨0, Nat.zero_le _, rfl, rfl, rfl, x3, rfl⟩
    case round =>
      clear x1 x2 x3 hWc hCc
      obtain ⟨s, hsN, rfl, rfl, rfl, ⟨x, rfl⟩⟩ := hrel
      by_cases hlt : s < N
      · have hs2 : s < 2 ^ (items p).length := by rw [hn.out, ← hN.out]; exact hlt
        obtain ⟨hr1, hr2⟩ := hRat.out s hs2
        obtain ⟨hc1, hc2⟩ := hCat.out s hs2
        have hs65 : s < 65536 := by omega
        have HS1 : Hid (metTo (items p) S (s + 1) = (metTo (items p) S s || decide (listed (items p) s = S))) := Lib.hid rfl
        have HS2 : Hid (metTo (items p) C (s + 1) = (metTo (items p) C s || decide (listed (items p) s = C))) := Lib.hid rfl
        have hch := Lib.hid (lchosen (Later.now x.w) _ (items p) s hs65 (I0.out.below x.h) (by rw [hn.out]; omega))
        rw [hn.out] at hch
        go_upto_region 19 with (go_at_call 29; refine hch.out.mono ?_; rintro e w' ⟨u, rfl, y, rfl, hI⟩; have IS := Lib.hid hI; obtain ⟨a5, c5, rfl, hx1, hx2⟩ := hI; clear hx1 hx2)
        have pp0 := Later.cells (below_then x.h y) p0
        have pp1 := Later.cells (below_then x.h y) p1
        have pp2 := Later.cells (below_then x.h y) p2
        have ss1 := Later.sizes (below_then x.h y) s1
        have hq1 := Lib.hid (fun z : Later y.w => rSameInts z _ _ (listed (items p) s) S IS.out ((IR.out.below x.h).below y.h))
        have hq2 := Lib.hid (fun z : Later y.w => rSameInts z _ _ (listed (items p) s) C IS.out ((IC.out.below x.h).below y.h))
        have hsame1 : decide (listed (items p) s = S) = true → witE (subP p s) i q = 3 ∨ ¬ (3 : Int) = 0 := fun h => by first | exact .inr (by decide) | exact .inl (hr2 (by trivial) (of_decide_eq_true h))
        have hsame2 : decide (listed (items p) s = C) = true → firstE (subP p s) = 72 ∨ ¬ (3 : Int) = 0 := fun h => by first | exact .inr (by decide) | exact .inl (hc2 (by trivial) (of_decide_eq_true h))
        obtain ⟨d1, hd1⟩ : ∃ b, decide (listed (items p) s = S) = b := ⟨_, rfl⟩
        have hdd1 := Lib.hid hd1
        obtain ⟨d2, hd2⟩ : ∃ b, decide (listed (items p) s = C) = b := ⟨_, rfl⟩
        have hdd2 := Lib.hid hd2
        rw [hd1] at hq1 HS1 hsame1
        rw [hd2] at hq2 HS2 hsame2
        clear hd1 hd2
        have hOn := Lib.hid (fun z : Later y.w => pOnly (Later.now z.w) _ _ _ _ p (listed (items p) s) ((HP.out.below (x.up y).h).below z.h) (IS.out.below z.h))
        have hon := hOnl.out s
        replace hon := Lib.hid hon
        have hll := listedTo_len (items p) s (items p).length
        replace hll := Lib.hid hll
        go_upto_region 21 with (fail)
        obtain ⟨z, hz⟩ : ∃ z : Later y.w, y.w = z.w := ⟨Later.now y.w, rfl⟩
        rw [hz]
        clear hz
        have hOz := Lib.hid (hOn.out z)
        go_upto_region 22 with (go_at_call 18; refine hOz.out.mono ?_; rintro e w' ⟨q0, q1, q2, rfl, ⟨⟨a6, l6, c6, rfl⟩, ⟨a7, l7, c7, rfl⟩, ⟨a8, l8, c8, rfl⟩⟩, y6, rfl, hQ⟩)
        rw [hon.out]
        have HQ0 := hQ hon.out
        clear hQ
        obtain ⟨b8, hB8⟩ : ∃ b8, y6.w.heap.size = b8 := ⟨_, rfl⟩
        obtain ⟨W5, hW5⟩ : ∃ W5, y6.w.alloc (.cells #[.slice a6 l6 c6, .slice a7 l7 c7, .slice a8 l8 c8] 26) = W5 := ⟨_, rfl⟩
        have hb5 : Below y6.w.heap.size y6.w W5 := hW5 ▸ below_alloc1 _ _
        have n8 : b8 < W5.heap.size := by rw [← hW5, ← hB8]; simp
        have d80 : ∀ y : Later W5, y.w.cell? ⟨b8, 0, none⟩ = some (.slice a6 l6 c6) := Later.cell n8 (by rw [← hW5, ← hB8]; exact World.cell?_alloc_at _ _ _ 0 rfl)
        have d81 : ∀ y : Later W5, y.w.cell? ⟨b8, 1, none⟩ = some (.slice a7 l7 c7) := Later.cell n8 (by rw [← hW5, ← hB8]; exact World.cell?_alloc_at _ _ _ 1 rfl)
        have d82 : ∀ y : Later W5, y.w.cell? ⟨b8, 2, none⟩ = some (.slice a8 l8 c8) := Later.cell n8 (by rw [← hW5, ← hB8]; exact World.cell?_alloc_at _ _ _ 2 rfl)
        have s8 : ∀ y : Later W5, b8 < y.w.heap.size := Later.size n8
        have hyz : Below y.w.heap.size y.w W5 := (below_then z.h y6).trans (hb5.mono (below_then z.h y6).size)
        have hb35 : Below y3.w.heap.size y3.w W5 := (below_then x.h y).trans (hyz.mono (below_then x.h y).size)
        have HQ := Lib.hid (HQ0.below hb5)
        have hs1b := Lib.hid (fun v : Later W5 => rSameInts v _ _ (listed (items p) s) S (IS.out.below hyz) ((IR.out.below (x.up y).h).below hyz))
        have hs2b := Lib.hid (fun v : Later W5 => rSameInts v _ _ (listed (items p) s) C (IS.out.below hyz) ((IC.out.below (x.up y).h).below hyz))
        have hW := Lib.hid (fun v : Later W5 => pWitness v _ _ _ (subP p s) i q HQ.out)
        have hF := Lib.hid (fun v : Later W5 => pFirst v _ _ _ (subP p s) HQ.out)
        rw [hdd1.out] at hs1b
        rw [hdd2.out] at hs2b
        rw [hW5, hB8]
        clear hW5 hB8 hb5 HQ0 hOz
        show Code.wp _ _ _ _ (Later.now W5).w
        generalize Later.now W5 = v1
        go_upto_region 23 with (go_at_call 16; refine (hW.out v1).mono ?_; rintro e w' ⟨u, rfl, v2, rfl, hI⟩; obtain ⟨a9, c9, rfl, hx1, hx2⟩ := hI; clear hx1 hx2)
        go_upto_region 24 with (go_at_call 30; refine (hF.out v2).mono ?_; rintro e w' ⟨u, rfl, v3, rfl, hI⟩; obtain ⟨a10, c10, rfl, hx1, hx2⟩ := hI; clear hx1 hx2)
        clear hW hF d80 d81 d82 s8 HQ pp0 pp1 pp2 ss1 hch hOn v1 v2
        obtain ⟨wW, hwW⟩ : ∃ e, witE (subP p s) i q = e := ⟨_, rfl⟩
        obtain ⟨fF, hfF⟩ : ∃ e, firstE (subP p s) = e := ⟨_, rfl⟩
        have hww := hWq.out s
        have hff := hFq.out s
        rw [hwW] at hww hsame1 hr1 ⊢
        rw [hfF] at hff hsame2 hc1 ⊢
        generalize (witL (subP p s) i q).length = lw
        generalize (firstL (subP p s)).length = lf
        clear hwW hfF
        rcases hww with rfl | rfl <;> rcases hff with rfl | rfl
        · as_aux_lemma =>
            clear hr1 hr2 hc1 hc2 hsame1 hsame2
            skip
            go_wp2
            go_roundw
            case rel => exact ⟨s + 1, by omega, by go_num, by rfl, by rfl, ⟨v3.w, below_then hb35 v3⟩, rfl⟩
            case measure => simp [intOf]; omega
        · as_aux_lemma =>
            clear hr1 hr2 hc1 hc2 hsame1 hsame2
            skip
            go_wp2
            go_roundw
            case rel => exact ⟨s + 1, by omega, by go_num, by rfl, by rfl, ⟨v3.w, below_then hb35 v3⟩, rfl⟩
            case measure => simp [intOf]; omega
        · as_aux_lemma =>
            clear hr1 hr2 hc1 hc2 hsame1 hsame2
            skip
            go_wp2
            go_roundw
            case rel => exact ⟨s + 1, by omega, by go_num, by rfl, by rfl, ⟨v3.w, below_then hb35 v3⟩, rfl⟩
            case measure => simp [intOf]; omega
        · as_aux_lemma =>
            clear hr1 hr2 hc1 hc2 hsame1 hsame2
            skip
            go_wp2
            go_roundw
            case rel => exact ⟨s + 1, by omega, by go_num, by rfl, by rfl, ⟨v3.w, below_then hb35 v3⟩, rfl⟩
            case measure => simp [intOf]; omega
      · obtain rfl : s = N := by omega
        go_wp2
        go_ret; exact hbase.out _
  · skip
    go_wp2_with (first | (go_at_call 16; refine (hWc.out x1).mono ?_; rintro e w' ⟨u, rfl, x2, rfl, hI⟩; obtain ⟨a3, c3, rfl, hx1, hx2⟩ := hI; clear hx1 hx2) | (go_at_call 28; refine (hCc.out x2).mono ?_; rintro e w' ⟨rfl, x3, rfl⟩))
    go_loopw [17, 18, 19] (fun ov tv bv wr => ∃ s : Nat, s ≤ N ∧ bv = .int .i64 s ∧ ov = .bool true ∧ tv = .bool (metTo (items p) C s) ∧ ∃ y : Later y3.w, wr = y.w) (fun _ _ bv _ => N - (intOf bv).toNat)
    case atStart => exact ⟨0, Nat.zero_le _, rfl, rfl, rfl, x3, rfl⟩
    case round =>
      clear x1 x2 x3 hWc hCc
      obtain ⟨s, hsN, rfl, rfl, rfl, ⟨x, rfl⟩⟩ := hrel
      by_cases hlt : s < N
      · have hs2 : s < 2 ^ (items p).length := by rw [hn.out, ← hN.out]; exact hlt
        obtain ⟨hr1, hr2⟩ := hRat.out s hs2
        obtain ⟨hc1, hc2⟩ := hCat.out s hs2
        have hs65 : s < 65536 := by omega
        have HS1 : Hid (metTo (items p) S (s + 1) = (metTo (items p) S s || decide (listed (items p) s = S))) := Lib.hid rfl
        have HS2 : Hid (metTo (items p) C (s + 1) = (metTo (items p) C s || decide (listed (items p) s = C))) := Lib.hid rfl
        have hch := Lib.hid (lchosen (Later.now x.w) _ (items p) s hs65 (I0.out.below x.h) (by rw [hn.out]; omega))
        rw [hn.out] at hch
        go_upto_region 19 with (go_at_call 29; refine hch.out.mono ?_; rintro e w' ⟨u, rfl, y, rfl, hI⟩; have IS := Lib.hid hI; obtain ⟨a5, c5, rfl, hx1, hx2⟩ := hI; clear hx1 hx2)
        have pp0 := Later.cells (below_then x.h y) p0
        have pp1 := Later.cells (below_then x.h y) p1
        have pp2 := Later.cells (below_then x.h y) p2
        have ss1 := Later.sizes (below_then x.h y) s1
        have hq1 := Lib.hid (fun z : Later y.w => rSameInts z _ _ (listed (items p) s) S IS.out ((IR.out.below x.h).below y.h))
        have hq2 := Lib.hid (fun z : Later y.w => rSameInts z _ _ (listed (items p) s) C IS.out ((IC.out.below x.h).below y.h))
        have hsame1 : decide (listed (items p) s = S) = true → witE (subP p s) i q = 3 ∨ ¬ (3 : Int) = 0 := fun h => by first | exact .inr (by decide) | exact .inl (hr2 (by trivial) (of_decide_eq_true h))
        have hsame2 : decide (listed (items p) s = C) = true → firstE (subP p s) = 72 ∨ ¬ (0 : Int) = 0 := fun h => by first | exact .inr (by decide) | exact .inl (hc2 (by trivial) (of_decide_eq_true h))
        obtain ⟨d1, hd1⟩ : ∃ b, decide (listed (items p) s = S) = b := ⟨_, rfl⟩
        have hdd1 := Lib.hid hd1
        obtain ⟨d2, hd2⟩ : ∃ b, decide (listed (items p) s = C) = b := ⟨_, rfl⟩
        have hdd2 := Lib.hid hd2
        rw [hd1] at hq1 HS1 hsame1
        rw [hd2] at hq2 HS2 hsame2
        clear hd1 hd2
        have hOn := Lib.hid (fun z : Later y.w => pOnly (Later.now z.w) _ _ _ _ p (listed (items p) s) ((HP.out.below (x.up y).h).below z.h) (IS.out.below z.h))
        have hon := hOnl.out s
        replace hon := Lib.hid hon
        have hll := listedTo_len (items p) s (items p).length
        replace hll := Lib.hid hll
        obtain ⟨m2, hm2⟩ : ∃ b, metTo (items p) C s = b := ⟨_, rfl⟩
        rw [hm2] at HS2 ⊢
        clear hm2
        cases m2
        · go_upto_region 21 with ((go_at_call 20; refine (hq2.out (Later.now y.w)).mono ?_; rintro e w' ⟨rfl, z, rfl⟩))
          have hOz := Lib.hid (hOn.out z)
          go_upto_region 22 with (go_at_call 18; refine hOz.out.mono ?_; rintro e w' ⟨q0, q1, q2, rfl, ⟨⟨a6, l6, c6, rfl⟩, ⟨a7, l7, c7, rfl⟩, ⟨a8, l8, c8, rfl⟩⟩, y6, rfl, hQ⟩)
          rw [hon.out]
          have HQ0 := hQ hon.out
          clear hQ
          obtain ⟨b8, hB8⟩ : ∃ b8, y6.w.heap.size = b8 := ⟨_, rfl⟩
          obtain ⟨W5, hW5⟩ : ∃ W5, y6.w.alloc (.cells #[.slice a6 l6 c6, .slice a7 l7 c7, .slice a8 l8 c8] 26) = W5 := ⟨_, rfl⟩
          have hb5 : Below y6.w.heap.size y6.w W5 := hW5 ▸ below_alloc1 _ _
          have n8 : b8 < W5.heap.size := by rw [← hW5, ← hB8]; simp
          have d80 : ∀ y : Later W5, y.w.cell? ⟨b8, 0, none⟩ = some (.slice a6 l6 c6) := Later.cell n8 (by rw [← hW5, ← hB8]; exact World.cell?_alloc_at _ _ _ 0 rfl)
          have d81 : ∀ y : Later W5, y.w.cell? ⟨b8, 1, none⟩ = some (.slice a7 l7 c7) := Later.cell n8 (by rw [← hW5, ← hB8]; exact World.cell?_alloc_at _ _ _ 1 rfl)
          have d82 : ∀ y : Later W5, y.w.cell? ⟨b8, 2, none⟩ = some (.slice a8 l8 c8) := Later.cell n8 (by rw [← hW5, ← hB8]; exact World.cell?_alloc_at _ _ _ 2 rfl)
          have s8 : ∀ y : Later W5, b8 < y.w.heap.size := Later.size n8
          have hyz : Below y.w.heap.size y.w W5 := (below_then z.h y6).trans (hb5.mono (below_then z.h y6).size)
          have hb35 : Below y3.w.heap.size y3.w W5 := (below_then x.h y).trans (hyz.mono (below_then x.h y).size)
          have HQ := Lib.hid (HQ0.below hb5)
          have hs1b := Lib.hid (fun v : Later W5 => rSameInts v _ _ (listed (items p) s) S (IS.out.below hyz) ((IR.out.below (x.up y).h).below hyz))
          have hs2b := Lib.hid (fun v : Later W5 => rSameInts v _ _ (listed (items p) s) C (IS.out.below hyz) ((IC.out.below (x.up y).h).below hyz))
          have hW := Lib.hid (fun v : Later W5 => pWitness v _ _ _ (subP p s) i q HQ.out)
          have hF := Lib.hid (fun v : Later W5 => pFirst v _ _ _ (subP p s) HQ.out)
          rw [hdd1.out] at hs1b
          rw [hdd2.out] at hs2b
          rw [hW5, hB8]
          clear hW5 hB8 hb5 HQ0 hOz
          show Code.wp _ _ _ _ (Later.now W5).w
          generalize Later.now W5 = v1
          go_upto_region 23 with (go_at_call 16; refine (hW.out v1).mono ?_; rintro e w' ⟨u, rfl, v2, rfl, hI⟩; obtain ⟨a9, c9, rfl, hx1, hx2⟩ := hI; clear hx1 hx2)
          go_upto_region 24 with (go_at_call 30; refine (hF.out v2).mono ?_; rintro e w' ⟨u, rfl, v3, rfl, hI⟩; obtain ⟨a10, c10, rfl, hx1, hx2⟩ := hI; clear hx1 hx2)
          clear hW hF d80 d81 d82 s8 HQ pp0 pp1 pp2 ss1 hch hOn v1 v2
          obtain ⟨wW, hwW⟩ : ∃ e, witE (subP p s) i q = e := ⟨_, rfl⟩
          obtain ⟨fF, hfF⟩ : ∃ e, firstE (subP p s) = e := ⟨_, rfl⟩
          have hww := hWq.out s
          have hff := hFq.out s
          rw [hwW] at hww hsame1 hr1 ⊢
          rw [hfF] at hff hsame2 hc1 ⊢
          generalize (witL (subP p s) i q).length = lw
          generalize (firstL (subP p s)).length = lf
          clear hwW hfF
          rcases hww with rfl | rfl <;> rcases hff with rfl | rfl
          · as_aux_lemma =>
              have hd2 : d2 = false := Bool.eq_false_iff.2 (fun h => absurd (hsame2 h) (by decide))
              subst hd2
              clear hr1 hr2 hc1 hc2 hsame1 hsame2
              skip
              go_wp2_with ((go_at_call 20; refine (hs2b.out v3).mono ?_; rintro e w' ⟨rfl, v5, rfl⟩))
              go_roundw
              case rel => exact ⟨s + 1, by omega, by go_num, by rfl, by first | (rw [HS2.out]; rfl) | (rw [HS2.out]; simp), ⟨v5.w, below_then hb35 v5⟩, rfl⟩
              case measure => simp [intOf]; omega
          · as_aux_lemma =>
              have hl2 : C.length ≤ (listed (items p) s).length := hc1 (by trivial) (by trivial)
              have hl2b : decide ((listed (items p) s).length < C.length) = false := decide_eq_false (by omega)
              have hl2c : decide (((listed (items p) s).length : Int) < (C.length : Int)) = false := decide_eq_false (by omega)
              clear hr1 hr2 hc1 hc2 hsame1 hsame2
              cases d2
              all_goals
                go_wp2_with ((go_at_call 20; refine (hs2b.out v3).mono ?_; rintro e w' ⟨rfl, v5, rfl⟩))
                go_roundw
                case rel => exact ⟨s + 1, by omega, by go_num, by rfl, by first | (rw [HS2.out]; rfl) | (rw [HS2.out]; simp), ⟨v5.w, below_then hb35 v5⟩, rfl⟩
                case measure => simp [intOf]; omega
          · as_aux_lemma =>
              have hd2 : d2 = false := Bool.eq_false_iff.2 (fun h => absurd (hsame2 h) (by decide))
              subst hd2
              clear hr1 hr2 hc1 hc2 hsame1 hsame2
              skip
              go_wp2_with ((go_at_call 20; refine (hs2b.out v3).mono ?_; rintro e w' ⟨rfl, v5, rfl⟩))
              go_roundw
              case rel => exact ⟨s + 1, by omega, by go_num, by rfl, by first | (rw [HS2.out]; rfl) | (rw [HS2.out]; simp), ⟨v5.w, below_then hb35 v5⟩, rfl⟩
              case measure => simp [intOf]; omega
          · as_aux_lemma =>
              have hl2 : C.length ≤ (listed (items p) s).length := hc1 (by trivial) (by trivial)
              have hl2b : decide ((listed (items p) s).length < C.length) = false := decide_eq_false (by omega)
              have hl2c : decide (((listed (items p) s).length : Int) < (C.length : Int)) = false := decide_eq_false (by omega)
              clear hr1 hr2 hc1 hc2 hsame1 hsame2
              cases d2
              all_goals
                go_wp2_with ((go_at_call 20; refine (hs2b.out v3).mono ?_; rintro e w' ⟨rfl, v5, rfl⟩))
                go_roundw
                case rel => exact ⟨s + 1, by omega, by go_num, by rfl, by first | (rw [HS2.out]; rfl) | (rw [HS2.out]; simp), ⟨v5.w, below_then hb35 v5⟩, rfl⟩
                case measure => simp [intOf]; omega
        · go_upto_region 21 with (fail)
          obtain ⟨z, hz⟩ : ∃ z : Later y.w, y.w = z.w := ⟨Later.now y.w, rfl⟩
          rw [hz]
          clear hz
          have hOz := Lib.hid (hOn.out z)
          go_upto_region 22 with (go_at_call 18; refine hOz.out.mono ?_; rintro e w' ⟨q0, q1, q2, rfl, ⟨⟨a6, l6, c6, rfl⟩, ⟨a7, l7, c7, rfl⟩, ⟨a8, l8, c8, rfl⟩⟩, y6, rfl, hQ⟩)
          rw [hon.out]
          have HQ0 := hQ hon.out
          clear hQ
          obtain ⟨b8, hB8⟩ : ∃ b8, y6.w.heap.size = b8 := ⟨_, rfl⟩
          obtain ⟨W5, hW5⟩ : ∃ W5, y6.w.alloc (.cells #[.slice a6 l6 c6, .slice a7 l7 c7, .slice a8 l8 c8] 26) = W5 := ⟨_, rfl⟩
          have hb5 : Below y6.w.heap.size y6.w W5 := hW5 ▸ below_alloc1 _ _
          have n8 : b8 < W5.heap.size := by rw [← hW5, ← hB8]; simp
          have d80 : ∀ y : Later W5, y.w.cell? ⟨b8, 0, none⟩ = some (.slice a6 l6 c6) := Later.cell n8 (by rw [← hW5, ← hB8]; exact World.cell?_alloc_at _ _ _ 0 rfl)
          have d81 : ∀ y : Later W5, y.w.cell? ⟨b8, 1, none⟩ = some (.slice a7 l7 c7) := Later.cell n8 (by rw [← hW5, ← hB8]; exact World.cell?_alloc_at _ _ _ 1 rfl)
          have d82 : ∀ y : Later W5, y.w.cell? ⟨b8, 2, none⟩ = some (.slice a8 l8 c8) := Later.cell n8 (by rw [← hW5, ← hB8]; exact World.cell?_alloc_at _ _ _ 2 rfl)
          have s8 : ∀ y : Later W5, b8 < y.w.heap.size := Later.size n8
          have hyz : Below y.w.heap.size y.w W5 := (below_then z.h y6).trans (hb5.mono (below_then z.h y6).size)
          have hb35 : Below y3.w.heap.size y3.w W5 := (below_then x.h y).trans (hyz.mono (below_then x.h y).size)
          have HQ := Lib.hid (HQ0.below hb5)
          have hs1b := Lib.hid (fun v : Later W5 => rSameInts v _ _ (listed (items p) s) S (IS.out.below hyz) ((IR.out.below (x.up y).h).below hyz))
          have hs2b := Lib.hid (fun v : Later W5 => rSameInts v _ _ (listed (items p) s) C (IS.out.below hyz) ((IC.out.below (x.up y).h).below hyz))
          have hW := Lib.hid (fun v : Later W5 => pWitness v _ _ _ (subP p s) i q HQ.out)
          have hF := Lib.hid (fun v : Later W5 => pFirst v _ _ _ (subP p s) HQ.out)
          rw [hdd1.out] at hs1b
          rw [hdd2.out] at hs2b
          rw [hW5, hB8]
          clear hW5 hB8 hb5 HQ0 hOz
          show Code.wp _ _ _ _ (Later.now W5).w
          generalize Later.now W5 = v1
          go_upto_region 23 with (go_at_call 16; refine (hW.out v1).mono ?_; rintro e w' ⟨u, rfl, v2, rfl, hI⟩; obtain ⟨a9, c9, rfl, hx1, hx2⟩ := hI; clear hx1 hx2)
          go_upto_region 24 with (go_at_call 30; refine (hF.out v2).mono ?_; rintro e w' ⟨u, rfl, v3, rfl, hI⟩; obtain ⟨a10, c10, rfl, hx1, hx2⟩ := hI; clear hx1 hx2)
          clear hW hF d80 d81 d82 s8 HQ pp0 pp1 pp2 ss1 hch hOn v1 v2
          obtain ⟨wW, hwW⟩ : ∃ e, witE (subP p s) i q = e := ⟨_, rfl⟩
          obtain ⟨fF, hfF⟩ : ∃ e, firstE (subP p s) = e := ⟨_, rfl⟩
          have hww := hWq.out s
          have hff := hFq.out s
          rw [hwW] at hww hsame1 hr1 ⊢
          rw [hfF] at hff hsame2 hc1 ⊢
          generalize (witL (subP p s) i q).length = lw
          generalize (firstL (subP p s)).length = lf
          clear hwW hfF
          rcases hww with rfl | rfl <;> rcases hff with rfl | rfl
          · as_aux_lemma =>
              have hd2 : d2 = false := Bool.eq_false_iff.2 (fun h => absurd (hsame2 h) (by decide))
              subst hd2
              clear hr1 hr2 hc1 hc2 hsame1 hsame2
              skip
              go_wp2_with ((go_at_call 20; refine (hs2b.out v3).mono ?_; rintro e w' ⟨rfl, v5, rfl⟩))
              go_roundw
              case rel => exact ⟨s + 1, by omega, by go_num, by rfl, by first | (rw [HS2.out]; rfl) | (rw [HS2.out]; simp), ⟨v5.w, below_then hb35 v5⟩, rfl⟩
              case measure => simp [intOf]; omega
          · as_aux_lemma =>
              have hl2 : C.length ≤ (listed (items p) s).length := hc1 (by trivial) (by trivial)
              have hl2b : decide ((listed (items p) s).length < C.length) = false := decide_eq_false (by omega)
              have hl2c : decide (((listed (items p) s).length : Int) < (C.length : Int)) = false := decide_eq_false (by omega)
              clear hr1 hr2 hc1 hc2 hsame1 hsame2
              cases d2
              all_goals
                go_wp2_with ((go_at_call 20; refine (hs2b.out v3).mono ?_; rintro e w' ⟨rfl, v5, rfl⟩))
                go_roundw
                case rel => exact ⟨s + 1, by omega, by go_num, by rfl, by first | (rw [HS2.out]; rfl) | (rw [HS2.out]; simp), ⟨v5.w, below_then hb35 v5⟩, rfl⟩
                case measure => simp [intOf]; omega
          · as_aux_lemma =>
              have hd2 : d2 = false := Bool.eq_false_iff.2 (fun h => absurd (hsame2 h) (by decide))
              subst hd2
              clear hr1 hr2 hc1 hc2 hsame1 hsame2
              skip
              go_wp2_with ((go_at_call 20; refine (hs2b.out v3).mono ?_; rintro e w' ⟨rfl, v5, rfl⟩))
              go_roundw
              case rel => exact ⟨s + 1, by omega, by go_num, by rfl, by first | (rw [HS2.out]; rfl) | (rw [HS2.out]; simp), ⟨v5.w, below_then hb35 v5⟩, rfl⟩
              case measure => simp [intOf]; omega
          · as_aux_lemma =>
              have hl2 : C.length ≤ (listed (items p) s).length := hc1 (by trivial) (by trivial)
              have hl2b : decide ((listed (items p) s).length < C.length) = false := decide_eq_false (by omega)
              have hl2c : decide (((listed (items p) s).length : Int) < (C.length : Int)) = false := decide_eq_false (by omega)
              clear hr1 hr2 hc1 hc2 hsame1 hsame2
              cases d2
              all_goals
                go_wp2_with ((go_at_call 20; refine (hs2b.out v3).mono ?_; rintro e w' ⟨rfl, v5, rfl⟩))
                go_roundw
                case rel => exact ⟨s + 1, by omega, by go_num, by rfl, by first | (rw [HS2.out]; rfl) | (rw [HS2.out]; simp), ⟨v5.w, below_then hb35 v5⟩, rfl⟩
                case measure => simp [intOf]; omega
      · obtain rfl : s = N := by omega
        have hm2 : metTo (items p) C s = true := by obtain ⟨b, hb, e⟩ := hC1.out (by trivial); exact metTo_of e s (by rw [hN.out, ← hn.out]; exact hb)
        rw [hm2]
        go_wp2
        go_ret; exact hbase.out _
  · have hcb : (cv' == 0) = false := by simp [hcn]
    clear hcn
    go_wp2_with (first | (go_at_call 16; refine (hWc.out x1).mono ?_; rintro e w' ⟨u, rfl, x2, rfl, hI⟩; obtain ⟨a3, c3, rfl, hx1, hx2⟩ := hI; clear hx1 hx2) | (go_at_call 28; refine (hCc.out x2).mono ?_; rintro e w' ⟨rfl, x3, rfl⟩))
    go_loopw [17, 18, 19] (fun ov tv bv wr => ∃ s : Nat, s ≤ N ∧ bv = .int .i64 s ∧ ov = .bool (metTo (items p) S s) ∧ tv = .bool true ∧ ∃ y : Later y3.w, wr = y.w) (fun _ _ bv _ => N - (intOf bv).toNat)
    case atStart => exact ⟨0, Nat.zero_le _, rfl, rfl, rfl, x3, rfl⟩
    case round =>
      clear x1 x2 x3 hWc hCc
      obtain ⟨s, hsN, rfl, rfl, rfl, ⟨x, rfl⟩⟩ := hrel
      by_cases hlt : s < N
      · have hs2 : s < 2 ^ (items p).length := by rw [hn.out, ← hN.out]; exact hlt
        obtain ⟨hr1, hr2⟩ := hRat.out s hs2
        obtain ⟨hc1, hc2⟩ := hCat.out s hs2
        have hs65 : s < 65536 := by omega
        have HS1 : Hid (metTo (items p) S (s + 1) = (metTo (items p) S s || decide (listed (items p) s = S))) := Lib.hid rfl
        have HS2 : Hid (metTo (items p) C (s + 1) = (metTo (items p) C s || decide (listed (items p) s = C))) := Lib.hid rfl
        have hch := Lib.hid (lchosen (Later.now x.w) _ (items p) s hs65 (I0.out.below x.h) (by rw [hn.out]; omega))
        rw [hn.out] at hch
        go_upto_region 19 with (go_at_call 29; refine hch.out.mono ?_; rintro e w' ⟨u, rfl, y, rfl, hI⟩; have IS := Lib.hid hI; obtain ⟨a5, c5, rfl, hx1, hx2⟩ := hI; clear hx1 hx2)
        have pp0 := Later.cells (below_then x.h y) p0
        have pp1 := Later.cells (below_then x.h y) p1
        have pp2 := Later.cells (below_then x.h y) p2
        have ss1 := Later.sizes (below_then x.h y) s1
        have hq1 := Lib.hid (fun z : Later y.w => rSameInts z _ _ (listed (items p) s) S IS.out ((IR.out.below x.h).below y.h))
        have hq2 := Lib.hid (fun z : Later y.w => rSameInts z _ _ (listed (items p) s) C IS.out ((IC.out.below x.h).below y.h))
        have hsame1 : decide (listed (items p) s = S) = true → witE (subP p s) i q = 3 ∨ ¬ (0 : Int) = 0 := fun h => by first | exact .inr (by decide) | exact .inl (hr2 (by trivial) (of_decide_eq_true h))
        have hsame2 : decide (listed (items p) s = C) = true → firstE (subP p s) = 72 ∨ ¬ (3 : Int) = 0 := fun h => by first | exact .inr (by decide) | exact .inl (hc2 (by trivial) (of_decide_eq_true h))
        obtain ⟨d1, hd1⟩ : ∃ b, decide (listed (items p) s = S) = b := ⟨_, rfl⟩
        have hdd1 := Lib.hid hd1
        obtain ⟨d2, hd2⟩ : ∃ b, decide (listed (items p) s = C) = b := ⟨_, rfl⟩
        have hdd2 := Lib.hid hd2
        rw [hd1] at hq1 HS1 hsame1
        rw [hd2] at hq2 HS2 hsame2
        clear hd1 hd2
        have hOn := Lib.hid (fun z : Later y.w => pOnly (Later.now z.w) _ _ _ _ p (listed (items p) s) ((HP.out.below (x.up y).h).below z.h) (IS.out.below z.h))
        have hon := hOnl.out s
        replace hon := Lib.hid hon
        have hll := listedTo_len (items p) s (items p).length
        replace hll := Lib.hid hll
        obtain ⟨m1, hm1⟩ : ∃ b, metTo (items p) S s = b := ⟨_, rfl⟩
        rw [hm1] at HS1 ⊢
        clear hm1
        cases m1
        · go_upto_region 21 with ((go_at_call 20; refine (hq1.out (Later.now y.w)).mono ?_; rintro e w' ⟨rfl, z, rfl⟩))
          have hOz := Lib.hid (hOn.out z)
          go_upto_region 22 with (go_at_call 18; refine hOz.out.mono ?_; rintro e w' ⟨q0, q1, q2, rfl, ⟨⟨a6, l6, c6, rfl⟩, ⟨a7, l7, c7, rfl⟩, ⟨a8, l8, c8, rfl⟩⟩, y6, rfl, hQ⟩)
          rw [hon.out]
          have HQ0 := hQ hon.out
          clear hQ
          obtain ⟨b8, hB8⟩ : ∃ b8, y6.w.heap.size = b8 := ⟨_, rfl⟩
          obtain ⟨W5, hW5⟩ : ∃ W5, y6.w.alloc (.cells #[.slice a6 l6 c6, .slice a7 l7 c7, .slice a8 l8 c8] 26) = W5 := ⟨_, rfl⟩
          have hb5 : Below y6.w.heap.size y6.w W5 := hW5 ▸ below_alloc1 _ _
          have n8 : b8 < W5.heap.size := by rw [← hW5, ← hB8]; simp
          have d80 : ∀ y : Later W5, y.w.cell? ⟨b8, 0, none⟩ = some (.slice a6 l6 c6) := Later.cell n8 (by rw [← hW5, ← hB8]; exact World.cell?_alloc_at _ _ _ 0 rfl)
          have d81 : ∀ y : Later W5, y.w.cell? ⟨b8, 1, none⟩ = some (.slice a7 l7 c7) := Later.cell n8 (by rw [← hW5, ← hB8]; exact World.cell?_alloc_at _ _ _ 1 rfl)
          have d82 : ∀ y : Later W5, y.w.cell? ⟨b8, 2, none⟩ = some (.slice a8 l8 c8) := Later.cell n8 (by rw [← hW5, ← hB8]; exact World.cell?_alloc_at _ _ _ 2 rfl)
          have s8 : ∀ y : Later W5, b8 < y.w.heap.size := Later.size n8
          have hyz : Below y.w.heap.size y.w W5 := (below_then z.h y6).trans (hb5.mono (below_then z.h y6).size)
          have hb35 : Below y3.w.heap.size y3.w W5 := (below_then x.h y).trans (hyz.mono (below_then x.h y).size)
          have HQ := Lib.hid (HQ0.below hb5)
          have hs1b := Lib.hid (fun v : Later W5 => rSameInts v _ _ (listed (items p) s) S (IS.out.below hyz) ((IR.out.below (x.up y).h).below hyz))
          have hs2b := Lib.hid (fun v : Later W5 => rSameInts v _ _ (listed (items p) s) C (IS.out.below hyz) ((IC.out.below (x.up y).h).below hyz))
          have hW := Lib.hid (fun v : Later W5 => pWitness v _ _ _ (subP p s) i q HQ.out)
          have hF := Lib.hid (fun v : Later W5 => pFirst v _ _ _ (subP p s) HQ.out)
          rw [hdd1.out] at hs1b
          rw [hdd2.out] at hs2b
          rw [hW5, hB8]
          clear hW5 hB8 hb5 HQ0 hOz
          show Code.wp _ _ _ _ (Later.now W5).w
          generalize Later.now W5 = v1
          go_upto_region 23 with (go_at_call 16; refine (hW.out v1).mono ?_; rintro e w' ⟨u, rfl, v2, rfl, hI⟩; obtain ⟨a9, c9, rfl, hx1, hx2⟩ := hI; clear hx1 hx2)
          go_upto_region 24 with (go_at_call 30; refine (hF.out v2).mono ?_; rintro e w' ⟨u, rfl, v3, rfl, hI⟩; obtain ⟨a10, c10, rfl, hx1, hx2⟩ := hI; clear hx1 hx2)
          clear hW hF d80 d81 d82 s8 HQ pp0 pp1 pp2 ss1 hch hOn v1 v2
          obtain ⟨wW, hwW⟩ : ∃ e, witE (subP p s) i q = e := ⟨_, rfl⟩
          obtain ⟨fF, hfF⟩ : ∃ e, firstE (subP p s) = e := ⟨_, rfl⟩
          have hww := hWq.out s
          have hff := hFq.out s
          rw [hwW] at hww hsame1 hr1 ⊢
          rw [hfF] at hff hsame2 hc1 ⊢
          generalize (witL (subP p s) i q).length = lw
          generalize (firstL (subP p s)).length = lf
          clear hwW hfF
          rcases hww with rfl | rfl <;> rcases hff with rfl | rfl
          · as_aux_lemma =>
              have hd1 : d1 = false := Bool.eq_false_iff.2 (fun h => absurd (hsame1 h) (by decide))
              subst hd1
              clear hr1 hr2 hc1 hc2 hsame1 hsame2
              skip
              go_wp2_with ((go_at_call 20; refine (hs1b.out v3).mono ?_; rintro e w' ⟨rfl, v5, rfl⟩))
              go_roundw
              case rel => exact ⟨s + 1, by omega, by go_num, by first | (rw [HS1.out]; rfl) | (rw [HS1.out]; simp), by rfl, ⟨v5.w, below_then hb35 v5⟩, rfl⟩
              case measure => simp [intOf]; omega
          · as_aux_lemma =>
              have hd1 : d1 = false := Bool.eq_false_iff.2 (fun h => absurd (hsame1 h) (by decide))
              subst hd1
              clear hr1 hr2 hc1 hc2 hsame1 hsame2
              skip
              go_wp2_with ((go_at_call 20; refine (hs1b.out v3).mono ?_; rintro e w' ⟨rfl, v5, rfl⟩))
              go_roundw
              case rel => exact ⟨s + 1, by omega, by go_num, by first | (rw [HS1.out]; rfl) | (rw [HS1.out]; simp), by rfl, ⟨v5.w, below_then hb35 v5⟩, rfl⟩
              case measure => simp [intOf]; omega
          · as_aux_lemma =>
              have hl1 : S.length ≤ (listed (items p) s).length := hr1 (by trivial) (by trivial)
              have hl1b : decide ((listed (items p) s).length < S.length) = false := decide_eq_false (by omega)
              have hl1c : decide (((listed (items p) s).length : Int) < (S.length : Int)) = false := decide_eq_false (by omega)
              clear hr1 hr2 hc1 hc2 hsame1 hsame2
              cases d1
              all_goals
                go_wp2_with ((go_at_call 20; refine (hs1b.out v3).mono ?_; rintro e w' ⟨rfl, v5, rfl⟩))
                go_roundw
                case rel => exact ⟨s + 1, by omega, by go_num, by first | (rw [HS1.out]; rfl) | (rw [HS1.out]; simp), by rfl, ⟨v5.w, below_then hb35 v5⟩, rfl⟩
                case measure => simp [intOf]; omega
          · as_aux_lemma =>
              have hl1 : S.length ≤ (listed (items p) s).length := hr1 (by trivial) (by trivial)
              have hl1b : decide ((listed (items p) s).length < S.length) = false := decide_eq_false (by omega)
              have hl1c : decide (((listed (items p) s).length : Int) < (S.length : Int)) = false := decide_eq_false (by omega)
              clear hr1 hr2 hc1 hc2 hsame1 hsame2
              cases d1
              all_goals
                go_wp2_with ((go_at_call 20; refine (hs1b.out v3).mono ?_; rintro e w' ⟨rfl, v5, rfl⟩))
                go_roundw
                case rel => exact ⟨s + 1, by omega, by go_num, by first | (rw [HS1.out]; rfl) | (rw [HS1.out]; simp), by rfl, ⟨v5.w, below_then hb35 v5⟩, rfl⟩
                case measure => simp [intOf]; omega
        · go_upto_region 21 with (fail)
          obtain ⟨z, hz⟩ : ∃ z : Later y.w, y.w = z.w := ⟨Later.now y.w, rfl⟩
          rw [hz]
          clear hz
          have hOz := Lib.hid (hOn.out z)
          go_upto_region 22 with (go_at_call 18; refine hOz.out.mono ?_; rintro e w' ⟨q0, q1, q2, rfl, ⟨⟨a6, l6, c6, rfl⟩, ⟨a7, l7, c7, rfl⟩, ⟨a8, l8, c8, rfl⟩⟩, y6, rfl, hQ⟩)
          rw [hon.out]
          have HQ0 := hQ hon.out
          clear hQ
          obtain ⟨b8, hB8⟩ : ∃ b8, y6.w.heap.size = b8 := ⟨_, rfl⟩
          obtain ⟨W5, hW5⟩ : ∃ W5, y6.w.alloc (.cells #[.slice a6 l6 c6, .slice a7 l7 c7, .slice a8 l8 c8] 26) = W5 := ⟨_, rfl⟩
          have hb5 : Below y6.w.heap.size y6.w W5 := hW5 ▸ below_alloc1 _ _
          have n8 : b8 < W5.heap.size := by rw [← hW5, ← hB8]; simp
          have d80 : ∀ y : Later W5, y.w.cell? ⟨b8, 0, none⟩ = some (.slice a6 l6 c6) := Later.cell n8 (by rw [← hW5, ← hB8]; exact World.cell?_alloc_at _ _ _ 0 rfl)
          have d81 : ∀ y : Later W5, y.w.cell? ⟨b8, 1, none⟩ = some (.slice a7 l7 c7) := Later.cell n8 (by rw [← hW5, ← hB8]; exact World.cell?_alloc_at _ _ _ 1 rfl)
          have d82 : ∀ y : Later W5, y.w.cell? ⟨b8, 2, none⟩ = some (.slice a8 l8 c8) := Later.cell n8 (by rw [← hW5, ← hB8]; exact World.cell?_alloc_at _ _ _ 2 rfl)
          have s8 : ∀ y : Later W5, b8 < y.w.heap.size := Later.size n8
          have hyz : Below y.w.heap.size y.w W5 := (below_then z.h y6).trans (hb5.mono (below_then z.h y6).size)
          have hb35 : Below y3.w.heap.size y3.w W5 := (below_then x.h y).trans (hyz.mono (below_then x.h y).size)
          have HQ := Lib.hid (HQ0.below hb5)
          have hs1b := Lib.hid (fun v : Later W5 => rSameInts v _ _ (listed (items p) s) S (IS.out.below hyz) ((IR.out.below (x.up y).h).below hyz))
          have hs2b := Lib.hid (fun v : Later W5 => rSameInts v _ _ (listed (items p) s) C (IS.out.below hyz) ((IC.out.below (x.up y).h).below hyz))
          have hW := Lib.hid (fun v : Later W5 => pWitness v _ _ _ (subP p s) i q HQ.out)
          have hF := Lib.hid (fun v : Later W5 => pFirst v _ _ _ (subP p s) HQ.out)
          rw [hdd1.out] at hs1b
          rw [hdd2.out] at hs2b
          rw [hW5, hB8]
          clear hW5 hB8 hb5 HQ0 hOz
          show Code.wp _ _ _ _ (Later.now W5).w
          generalize Later.now W5 = v1
          go_upto_region 23 with (go_at_call 16; refine (hW.out v1).mono ?_; rintro e w' ⟨u, rfl, v2, rfl, hI⟩; obtain ⟨a9, c9, rfl, hx1, hx2⟩ := hI; clear hx1 hx2)
          go_upto_region 24 with (go_at_call 30; refine (hF.out v2).mono ?_; rintro e w' ⟨u, rfl, v3, rfl, hI⟩; obtain ⟨a10, c10, rfl, hx1, hx2⟩ := hI; clear hx1 hx2)
          clear hW hF d80 d81 d82 s8 HQ pp0 pp1 pp2 ss1 hch hOn v1 v2
          obtain ⟨wW, hwW⟩ : ∃ e, witE (subP p s) i q = e := ⟨_, rfl⟩
          obtain ⟨fF, hfF⟩ : ∃ e, firstE (subP p s) = e := ⟨_, rfl⟩
          have hww := hWq.out s
          have hff := hFq.out s
          rw [hwW] at hww hsame1 hr1 ⊢
          rw [hfF] at hff hsame2 hc1 ⊢
          generalize (witL (subP p s) i q).length = lw
          generalize (firstL (subP p s)).length = lf
          clear hwW hfF
          rcases hww with rfl | rfl <;> rcases hff with rfl | rfl
          · as_aux_lemma =>
              have hd1 : d1 = false := Bool.eq_false_iff.2 (fun h => absurd (hsame1 h) (by decide))
              subst hd1
              clear hr1 hr2 hc1 hc2 hsame1 hsame2
              skip
              go_wp2_with ((go_at_call 20; refine (hs1b.out v3).mono ?_; rintro e w' ⟨rfl, v5, rfl⟩))
              go_roundw
              case rel => exact ⟨s + 1, by omega, by go_num, by first | (rw [HS1.out]; rfl) | (rw [HS1.out]; simp), by rfl, ⟨v5.w, below_then hb35 v5⟩, rfl⟩
              case measure => simp [intOf]; omega
          · as_aux_lemma =>
              have hd1 : d1 = false := Bool.eq_false_iff.2 (fun h => absurd (hsame1 h) (by decide))
              subst hd1
              clear hr1 hr2 hc1 hc2 hsame1 hsame2
              skip
              go_wp2_with ((go_at_call 20; refine (hs1b.out v3).mono ?_; rintro e w' ⟨rfl, v5, rfl⟩))
              go_roundw
              case rel => exact ⟨s + 1, by omega, by go_num, by first | (rw [HS1.out]; rfl) | (rw [HS1.out]; simp), by rfl, ⟨v5.w, below_then hb35 v5⟩, rfl⟩
              case measure => simp [intOf]; omega
          · as_aux_lemma =>
              have hl1 : S.length ≤ (listed (items p) s).length := hr1 (by trivial) (by trivial)
              have hl1b : decide ((listed (items p) s).length < S.length) = false := decide_eq_false (by omega)
              have hl1c : decide (((listed (items p) s).length : Int) < (S.length : Int)) = false := decide_eq_false (by omega)
              clear hr1 hr2 hc1 hc2 hsame1 hsame2
              cases d1
              all_goals
                go_wp2_with ((go_at_call 20; refine (hs1b.out v3).mono ?_; rintro e w' ⟨rfl, v5, rfl⟩))
                go_roundw
                case rel => exact ⟨s + 1, by omega, by go_num, by first | (rw [HS1.out]; rfl) | (rw [HS1.out]; simp), by rfl, ⟨v5.w, below_then hb35 v5⟩, rfl⟩
                case measure => simp [intOf]; omega
          · as_aux_lemma =>
              have hl1 : S.length ≤ (listed (items p) s).length := hr1 (by trivial) (by trivial)
              have hl1b : decide ((listed (items p) s).length < S.length) = false := decide_eq_false (by omega)
              have hl1c : decide (((listed (items p) s).length : Int) < (S.length : Int)) = false := decide_eq_false (by omega)
              clear hr1 hr2 hc1 hc2 hsame1 hsame2
              cases d1
              all_goals
                go_wp2_with ((go_at_call 20; refine (hs1b.out v3).mono ?_; rintro e w' ⟨rfl, v5, rfl⟩))
                go_roundw
                case rel => exact ⟨s + 1, by omega, by go_num, by first | (rw [HS1.out]; rfl) | (rw [HS1.out]; simp), by rfl, ⟨v5.w, below_then hb35 v5⟩, rfl⟩
                case measure => simp [intOf]; omega
      · obtain rfl : s = N := by omega
        have hm1 : metTo (items p) S s = true := by obtain ⟨b, hb, e⟩ := hR1.out (by trivial); exact metTo_of e s (by rw [hN.out, ← hn.out]; exact hb)
        rw [hm1]
        go_wp2
        go_ret; exact hbase.out _
  · skip
    go_wp2_with (first | (go_at_call 16; refine (hWc.out x1).mono ?_; rintro e w' ⟨u, rfl, x2, rfl, hI⟩; obtain ⟨a3, c3, rfl, hx1, hx2⟩ := hI; clear hx1 hx2) | (go_at_call 28; refine (hCc.out x2).mono ?_; rintro e w' ⟨rfl, x3, rfl⟩))
    go_loopw [17, 18, 19] (fun ov tv bv wr => ∃ s : Nat, s ≤ N ∧ bv = .int .i64 s ∧ ov = .bool (metTo (items p) S s) ∧ tv = .bool (metTo (items p) C s) ∧ ∃ y : Later y3.w, wr = y.w) (fun _ _ bv _ => N - (intOf bv).toNat)
    case atStart => exact ⟨0, Nat.zero_le _, rfl, rfl, rfl, x3, rfl⟩
    case round =>
      clear x1 x2 x3 hWc hCc
      obtain ⟨s, hsN, rfl, rfl, rfl, ⟨x, rfl⟩⟩ := hrel
      by_cases hlt : s < N
      · have hs2 : s < 2 ^ (items p).length := by rw [hn.out, ← hN.out]; exact hlt
        obtain ⟨hr1, hr2⟩ := hRat.out s hs2
        obtain ⟨hc1, hc2⟩ := hCat.out s hs2
        have hs65 : s < 65536 := by omega
        have HS1 : Hid (metTo (items p) S (s + 1) = (metTo (items p) S s || decide (listed (items p) s = S))) := Lib.hid rfl
        have HS2 : Hid (metTo (items p) C (s + 1) = (metTo (items p) C s || decide (listed (items p) s = C))) := Lib.hid rfl
        have hch := Lib.hid (lchosen (Later.now x.w) _ (items p) s hs65 (I0.out.below x.h) (by rw [hn.out]; omega))
        rw [hn.out] at hch
        go_upto_region 19 with (go_at_call 29; refine hch.out.mono ?_; rintro e w' ⟨u, rfl, y, rfl, hI⟩; have IS := Lib.hid hI; obtain ⟨a5, c5, rfl, hx1, hx2⟩ := hI; clear hx1 hx2)
        have pp0 := Later.cells (below_then x.h y) p0
        have pp1 := Later.cells (below_then x.h y) p1
        have pp2 := Later.cells (below_then x.h y) p2
        have ss1 := Later.sizes (below_then x.h y) s1
        have hq1 := Lib.hid (fun z : Later y.w => rSameInts z _ _ (listed (items p) s) S IS.out ((IR.out.below x.h).below y.h))
        have hq2 := Lib.hid (fun z : Later y.w => rSameInts z _ _ (listed (items p) s) C IS.out ((IC.out.below x.h).below y.h))
        have hsame1 : decide (listed (items p) s = S) = true → witE (subP p s) i q = 3 ∨ ¬ (0 : Int) = 0 := fun h => by first | exact .inr (by decide) | exact .inl (hr2 (by trivial) (of_decide_eq_true h))
        have hsame2 : decide (listed (items p) s = C) = true → firstE (subP p s) = 72 ∨ ¬ (0 : Int) = 0 := fun h => by first | exact .inr (by decide) | exact .inl (hc2 (by trivial) (of_decide_eq_true h))
        obtain ⟨d1, hd1⟩ : ∃ b, decide (listed (items p) s = S) = b := ⟨_, rfl⟩
        have hdd1 := Lib.hid hd1
        obtain ⟨d2, hd2⟩ : ∃ b, decide (listed (items p) s = C) = b := ⟨_, rfl⟩
        have hdd2 := Lib.hid hd2
        rw [hd1] at hq1 HS1 hsame1
        rw [hd2] at hq2 HS2 hsame2
        clear hd1 hd2
        have hOn := Lib.hid (fun z : Later y.w => pOnly (Later.now z.w) _ _ _ _ p (listed (items p) s) ((HP.out.below (x.up y).h).below z.h) (IS.out.below z.h))
        have hon := hOnl.out s
        replace hon := Lib.hid hon
        have hll := listedTo_len (items p) s (items p).length
        replace hll := Lib.hid hll
        obtain ⟨m1, hm1⟩ : ∃ b, metTo (items p) S s = b := ⟨_, rfl⟩
        rw [hm1] at HS1 ⊢
        clear hm1
        obtain ⟨m2, hm2⟩ : ∃ b, metTo (items p) C s = b := ⟨_, rfl⟩
        rw [hm2] at HS2 ⊢
        clear hm2
        cases m1 <;> cases m2
        · go_upto_region 21 with ((first | (have hx := z1.h; clear hx; go_at_call 20; refine (hq2.out z1).mono ?_; rintro e w' ⟨rfl, z, rfl⟩) | (go_at_call 20; refine (hq1.out (Later.now y.w)).mono ?_; rintro e w' ⟨rfl, z1, rfl⟩)))
          have hOz := Lib.hid (hOn.out z)
          go_upto_region 22 with (go_at_call 18; refine hOz.out.mono ?_; rintro e w' ⟨q0, q1, q2, rfl, ⟨⟨a6, l6, c6, rfl⟩, ⟨a7, l7, c7, rfl⟩, ⟨a8, l8, c8, rfl⟩⟩, y6, rfl, hQ⟩)
          rw [hon.out]
          have HQ0 := hQ hon.out
          clear hQ
          obtain ⟨b8, hB8⟩ : ∃ b8, y6.w.heap.size = b8 := ⟨_, rfl⟩
          obtain ⟨W5, hW5⟩ : ∃ W5, y6.w.alloc (.cells #[.slice a6 l6 c6, .slice a7 l7 c7, .slice a8 l8 c8] 26) = W5 := ⟨_, rfl⟩
          have hb5 : Below y6.w.heap.size y6.w W5 := hW5 ▸ below_alloc1 _ _
          have n8 : b8 < W5.heap.size := by rw [← hW5, ← hB8]; simp
          have d80 : ∀ y : Later W5, y.w.cell? ⟨b8, 0, none⟩ = some (.slice a6 l6 c6) := Later.cell n8 (by rw [← hW5, ← hB8]; exact World.cell?_alloc_at _ _ _ 0 rfl)
          have d81 : ∀ y : Later W5, y.w.cell? ⟨b8, 1, none⟩ = some (.slice a7 l7 c7) := Later.cell n8 (by rw [← hW5, ← hB8]; exact World.cell?_alloc_at _ _ _ 1 rfl)
          have d82 : ∀ y : Later W5, y.w.cell? ⟨b8, 2, none⟩ = some (.slice a8 l8 c8) := Later.cell n8 (by rw [← hW5, ← hB8]; exact World.cell?_alloc_at _ _ _ 2 rfl)
          have s8 : ∀ y : Later W5, b8 < y.w.heap.size := Later.size n8
          have hyz : Below y.w.heap.size y.w W5 := (below_then z.h y6).trans (hb5.mono (below_then z.h y6).size)
          have hb35 : Below y3.w.heap.size y3.w W5 := (below_then x.h y).trans (hyz.mono (below_then x.h y).size)
          have HQ := Lib.hid (HQ0.below hb5)
          have hs1b := Lib.hid (fun v : Later W5 => rSameInts v _ _ (listed (items p) s) S (IS.out.below hyz) ((IR.out.below (x.up y).h).below hyz))
          have hs2b := Lib.hid (fun v : Later W5 => rSameInts v _ _ (listed (items p) s) C (IS.out.below hyz) ((IC.out.below (x.up y).h).below hyz))
          have hW := Lib.hid (fun v : Later W5 => pWitness v _ _ _ (subP p s) i q HQ.out)
          have hF := Lib.hid (fun v : Later W5 => pFirst v _ _ _ (subP p s) HQ.out)
          rw [hdd1.out] at hs1b
          rw [hdd2.out] at hs2b
          rw [hW5, hB8]
          clear hW5 hB8 hb5 HQ0 hOz
          show Code.wp _ _ _ _ (Later.now W5).w
          generalize Later.now W5 = v1
          go_upto_region 23 with (go_at_call 16; refine (hW.out v1).mono ?_; rintro e w' ⟨u, rfl, v2, rfl, hI⟩; obtain ⟨a9, c9, rfl, hx1, hx2⟩ := hI; clear hx1 hx2)
          go_upto_region 24 with (go_at_call 30; refine (hF.out v2).mono ?_; rintro e w' ⟨u, rfl, v3, rfl, hI⟩; obtain ⟨a10, c10, rfl, hx1, hx2⟩ := hI; clear hx1 hx2)
          clear hW hF d80 d81 d82 s8 HQ pp0 pp1 pp2 ss1 hch hOn v1 v2
          obtain ⟨wW, hwW⟩ : ∃ e, witE (subP p s) i q = e := ⟨_, rfl⟩
          obtain ⟨fF, hfF⟩ : ∃ e, firstE (subP p s) = e := ⟨_, rfl⟩
          have hww := hWq.out s
          have hff := hFq.out s
          rw [hwW] at hww hsame1 hr1 ⊢
          rw [hfF] at hff hsame2 hc1 ⊢
          generalize (witL (subP p s) i q).length = lw
          generalize (firstL (subP p s)).length = lf
          clear hwW hfF
          rcases hww with rfl | rfl <;> rcases hff with rfl | rfl
          · as_aux_lemma =>
              have hd1 : d1 = false := Bool.eq_false_iff.2 (fun h => absurd (hsame1 h) (by decide))
              subst hd1
              have hd2 : d2 = false := Bool.eq_false_iff.2 (fun h => absurd (hsame2 h) (by decide))
              subst hd2
              clear hr1 hr2 hc1 hc2 hsame1 hsame2
              skip
              go_wp2_with (first | (have hx := v4.h; clear hx; go_at_call 20; refine (hs2b.out v4).mono ?_; rintro e w' ⟨rfl, v5, rfl⟩) | (go_at_call 20; refine (hs1b.out v3).mono ?_; rintro e w' ⟨rfl, v4, rfl⟩))
              go_roundw
              case rel => exact ⟨s + 1, by omega, by go_num, by first | (rw [HS1.out]; rfl) | (rw [HS1.out]; simp), by first | (rw [HS2.out]; rfl) | (rw [HS2.out]; simp), ⟨v5.w, below_then hb35 v5⟩, rfl⟩
              case measure => simp [intOf]; omega
          · as_aux_lemma =>
              have hd1 : d1 = false := Bool.eq_false_iff.2 (fun h => absurd (hsame1 h) (by decide))
              subst hd1
              have hl2 : C.length ≤ (listed (items p) s).length := hc1 (by trivial) (by trivial)
              have hl2b : decide ((listed (items p) s).length < C.length) = false := decide_eq_false (by omega)
              have hl2c : decide (((listed (items p) s).length : Int) < (C.length : Int)) = false := decide_eq_false (by omega)
              clear hr1 hr2 hc1 hc2 hsame1 hsame2
              cases d2
              all_goals
                go_wp2_with (first | (have hx := v4.h; clear hx; go_at_call 20; refine (hs2b.out v4).mono ?_; rintro e w' ⟨rfl, v5, rfl⟩) | (go_at_call 20; refine (hs1b.out v3).mono ?_; rintro e w' ⟨rfl, v4, rfl⟩))
                go_roundw
                case rel => exact ⟨s + 1, by omega, by go_num, by first | (rw [HS1.out]; rfl) | (rw [HS1.out]; simp), by first | (rw [HS2.out]; rfl) | (rw [HS2.out]; simp), ⟨v5.w, below_then hb35 v5⟩, rfl⟩
                case measure => simp [intOf]; omega
          · as_aux_lemma =>
              have hd2 : d2 = false := Bool.eq_false_iff.2 (fun h => absurd (hsame2 h) (by decide))
              subst hd2
              have hl1 : S.length ≤ (listed (items p) s).length := hr1 (by trivial) (by trivial)
              have hl1b : decide ((listed (items p) s).length < S.length) = false := decide_eq_false (by omega)
              have hl1c : decide (((listed (items p) s).length : Int) < (S.length : Int)) = false := decide_eq_false (by omega)
              clear hr1 hr2 hc1 hc2 hsame1 hsame2
              cases d1
              all_goals
                go_wp2_with (first | (have hx := v4.h; clear hx; go_at_call 20; refine (hs2b.out v4).mono ?_; rintro e w' ⟨rfl, v5, rfl⟩) | (go_at_call 20; refine (hs1b.out v3).mono ?_; rintro e w' ⟨rfl, v4, rfl⟩))
                go_roundw
                case rel => exact ⟨s + 1, by omega, by go_num, by first | (rw [HS1.out]; rfl) | (rw [HS1.out]; simp), by first | (rw [HS2.out]; rfl) | (rw [HS2.out]; simp), ⟨v5.w, below_then hb35 v5⟩, rfl⟩
                case measure => simp [intOf]; omega
          · as_aux_lemma =>
              have hl1 : S.length ≤ (listed (items p) s).length := hr1 (by trivial) (by trivial)
              have hl1b : decide ((listed (items p) s).length < S.length) = false := decide_eq_false (by omega)
              have hl1c : decide (((listed (items p) s).length : Int) < (S.length : Int)) = false := decide_eq_false (by omega)
              have hl2 : C.length ≤ (listed (items p) s).length := hc1 (by trivial) (by trivial)
              have hl2b : decide ((listed (items p) s).length < C.length) = false := decide_eq_false (by omega)
              have hl2c : decide (((listed (items p) s).length : Int) < (C.length : Int)) = false := decide_eq_false (by omega)
              clear hr1 hr2 hc1 hc2 hsame1 hsame2
              cases d1 <;> cases d2
              all_goals
                go_wp2_with (first | (have hx := v4.h; clear hx; go_at_call 20; refine (hs2b.out v4).mono ?_; rintro e w' ⟨rfl, v5, rfl⟩) | (go_at_call 20; refine (hs1b.out v3).mono ?_; rintro e w' ⟨rfl, v4, rfl⟩))
                go_roundw
                case rel => exact ⟨s + 1, by omega, by go_num, by first | (rw [HS1.out]; rfl) | (rw [HS1.out]; simp), by first | (rw [HS2.out]; rfl) | (rw [HS2.out]; simp), ⟨v5.w, below_then hb35 v5⟩, rfl⟩
                case measure => simp [intOf]; omega
        · go_upto_region 21 with ((go_at_call 20; refine (hq1.out (Later.now y.w)).mono ?_; rintro e w' ⟨rfl, z, rfl⟩))
          have hOz := Lib.hid (hOn.out z)
          go_upto_region 22 with (go_at_call 18; refine hOz.out.mono ?_; rintro e w' ⟨q0, q1, q2, rfl, ⟨⟨a6, l6, c6, rfl⟩, ⟨a7, l7, c7, rfl⟩, ⟨a8, l8, c8, rfl⟩⟩, y6, rfl, hQ⟩)
          rw [hon.out]
          have HQ0 := hQ hon.out
          clear hQ
          obtain ⟨b8, hB8⟩ : ∃ b8, y6.w.heap.size = b8 := ⟨_, rfl⟩
          obtain ⟨W5, hW5⟩ : ∃ W5, y6.w.alloc (.cells #[.slice a6 l6 c6, .slice a7 l7 c7, .slice a8 l8 c8] 26) = W5 := ⟨_, rfl⟩
          have hb5 : Below y6.w.heap.size y6.w W5 := hW5 ▸ below_alloc1 _ _
          have n8 : b8 < W5.heap.size := by rw [← hW5, ← hB8]; simp
          have d80 : ∀ y : Later W5, y.w.cell? ⟨b8, 0, none⟩ = some (.slice a6 l6 c6) := Later.cell n8 (by rw [← hW5, ← hB8]; exact World.cell?_alloc_at _ _ _ 0 rfl)
          have d81 : ∀ y : Later W5, y.w.cell? ⟨b8, 1, none⟩ = some (.slice a7 l7 c7) := Later.cell n8 (by rw [← hW5, ← hB8]; exact World.cell?_alloc_at _ _ _ 1 rfl)
          have d82 : ∀ y : Later W5, y.w.cell? ⟨b8, 2, none⟩ = some (.slice a8 l8 c8) := Later.cell n8 (by rw [← hW5, ← hB8]; exact World.cell?_alloc_at _ _ _ 2 rfl)
          have s8 : ∀ y : Later W5, b8 < y.w.heap.size := Later.size n8
          have hyz : Below y.w.heap.size y.w W5 := (below_then z.h y6).trans (hb5.mono (below_then z.h y6).size)
          have hb35 : Below y3.w.heap.size y3.w W5 := (below_then x.h y).trans (hyz.mono (below_then x.h y).size)
          have HQ := Lib.hid (HQ0.below hb5)
          have hs1b := Lib.hid (fun v : Later W5 => rSameInts v _ _ (listed (items p) s) S (IS.out.below hyz) ((IR.out.below (x.up y).h).below hyz))
          have hs2b := Lib.hid (fun v : Later W5 => rSameInts v _ _ (listed (items p) s) C (IS.out.below hyz) ((IC.out.below (x.up y).h).below hyz))
          have hW := Lib.hid (fun v : Later W5 => pWitness v _ _ _ (subP p s) i q HQ.out)
          have hF := Lib.hid (fun v : Later W5 => pFirst v _ _ _ (subP p s) HQ.out)
          rw [hdd1.out] at hs1b
          rw [hdd2.out] at hs2b
          rw [hW5, hB8]
          clear hW5 hB8 hb5 HQ0 hOz
          show Code.wp _ _ _ _ (Later.now W5).w
          generalize Later.now W5 = v1
          go_upto_region 23 with (go_at_call 16; refine (hW.out v1).mono ?_; rintro e w' ⟨u, rfl, v2, rfl, hI⟩; obtain ⟨a9, c9, rfl, hx1, hx2⟩ := hI; clear hx1 hx2)
          go_upto_region 24 with (go_at_call 30; refine (hF.out v2).mono ?_; rintro e w' ⟨u, rfl, v3, rfl, hI⟩; obtain ⟨a10, c10, rfl, hx1, hx2⟩ := hI; clear hx1 hx2)
          clear hW hF d80 d81 d82 s8 HQ pp0 pp1 pp2 ss1 hch hOn v1 v2
          obtain ⟨wW, hwW⟩ : ∃ e, witE (subP p s) i q = e := ⟨_, rfl⟩
          obtain ⟨fF, hfF⟩ : ∃ e, firstE (subP p s) = e := ⟨_, rfl⟩
          have hww := hWq.out s
          have hff := hFq.out s
          rw [hwW] at hww hsame1 hr1 ⊢
          rw [hfF] at hff hsame2 hc1 ⊢
          generalize (witL (subP p s) i q).length = lw
          generalize (firstL (subP p s)).length = lf
          clear hwW hfF
          rcases hww with rfl | rfl <;> rcases hff with rfl | rfl
          · as_aux_lemma =>
              have hd1 : d1 = false := Bool.eq_false_iff.2 (fun h => absurd (hsame1 h) (by decide))
              subst hd1
              have hd2 : d2 = false := Bool.eq_false_iff.2 (fun h => absurd (hsame2 h) (by decide))
              subst hd2
              clear hr1 hr2 hc1 hc2 hsame1 hsame2
              skip
              go_wp2_with (first | (have hx := v4.h; clear hx; go_at_call 20; refine (hs2b.out v4).mono ?_; rintro e w' ⟨rfl, v5, rfl⟩) | (go_at_call 20; refine (hs1b.out v3).mono ?_; rintro e w' ⟨rfl, v4, rfl⟩))
              go_roundw
              case rel => exact ⟨s + 1, by omega, by go_num, by first | (rw [HS1.out]; rfl) | (rw [HS1.out]; simp), by first | (rw [HS2.out]; rfl) | (rw [HS2.out]; simp), ⟨v5.w, below_then hb35 v5⟩, rfl⟩
              case measure => simp [intOf]; omega
          · as_aux_lemma =>
              have hd1 : d1 = false := Bool.eq_false_iff.2 (fun h => absurd (hsame1 h) (by decide))
              subst hd1
              have hl2 : C.length ≤ (listed (items p) s).length := hc1 (by trivial) (by trivial)
              have hl2b : decide ((listed (items p) s).length < C.length) = false := decide_eq_false (by omega)
              have hl2c : decide (((listed (items p) s).length : Int) < (C.length : Int)) = false := decide_eq_false (by omega)
              clear hr1 hr2 hc1 hc2 hsame1 hsame2
              cases d2
              all_goals
                go_wp2_with (first | (have hx := v4.h; clear hx; go_at_call 20; refine (hs2b.out v4).mono ?_; rintro e w' ⟨rfl, v5, rfl⟩) | (go_at_call 20; refine (hs1b.out v3).mono ?_; rintro e w' ⟨rfl, v4, rfl⟩))
                go_roundw
                case rel => exact ⟨s + 1, by omega, by go_num, by first | (rw [HS1.out]; rfl) | (rw [HS1.out]; simp), by first | (rw [HS2.out]; rfl) | (rw [HS2.out]; simp), ⟨v5.w, below_then hb35 v5⟩, rfl⟩
                case measure => simp [intOf]; omega
          · as_aux_lemma =>
              have hd2 : d2 = false := Bool.eq_false_iff.2 (fun h => absurd (hsame2 h) (by decide))
              subst hd2
              have hl1 : S.length ≤ (listed (items p) s).length := hr1 (by trivial) (by trivial)
              have hl1b : decide ((listed (items p) s).length < S.length) = false := decide_eq_false (by omega)
              have hl1c : decide (((listed (items p) s).length : Int) < (S.length : Int)) = false := decide_eq_false (by omega)
              clear hr1 hr2 hc1 hc2 hsame1 hsame2
              cases d1
              all_goals
                go_wp2_with (first | (have hx := v4.h; clear hx; go_at_call 20; refine (hs2b.out v4).mono ?_; rintro e w' ⟨rfl, v5, rfl⟩) | (go_at_call 20; refine (hs1b.out v3).mono ?_; rintro e w' ⟨rfl, v4, rfl⟩))
                go_roundw
                case rel => exact ⟨s + 1, by omega, by go_num, by first | (rw [HS1.out]; rfl) | (rw [HS1.out]; simp), by first | (rw [HS2.out]; rfl) | (rw [HS2.out]; simp), ⟨v5.w, below_then hb35 v5⟩, rfl⟩
                case measure => simp [intOf]; omega
          · as_aux_lemma =>
              have hl1 : S.length ≤ (listed (items p) s).length := hr1 (by trivial) (by trivial)
              have hl1b : decide ((listed (items p) s).length < S.length) = false := decide_eq_false (by omega)
              have hl1c : decide (((listed (items p) s).length : Int) < (S.length : Int)) = false := decide_eq_false (by omega)
              have hl2 : C.length ≤ (listed (items p) s).length := hc1 (by trivial) (by trivial)
              have hl2b : decide ((listed (items p) s).length < C.length) = false := decide_eq_false (by omega)
              have hl2c : decide (((listed (items p) s).length : Int) < (C.length : Int)) = false := decide_eq_false (by omega)
              clear hr1 hr2 hc1 hc2 hsame1 hsame2
              cases d1 <;> cases d2
              all_goals
                go_wp2_with (first | (have hx := v4.h; clear hx; go_at_call 20; refine (hs2b.out v4).mono ?_; rintro e w' ⟨rfl, v5, rfl⟩) | (go_at_call 20; refine (hs1b.out v3).mono ?_; rintro e w' ⟨rfl, v4, rfl⟩))
                go_roundw
                case rel => exact ⟨s + 1, by omega, by go_num, by first | (rw [HS1.out]; rfl) | (rw [HS1.out]; simp), by first | (rw [HS2.out]; rfl) | (rw [HS2.out]; simp), ⟨v5.w, below_then hb35 v5⟩, rfl⟩
                case measure => simp [intOf]; omega
        · go_upto_region 21 with ((go_at_call 20; refine (hq2.out (Later.now y.w)).mono ?_; rintro e w' ⟨rfl, z, rfl⟩))
          have hOz := Lib.hid (hOn.out z)
          go_upto_region 22 with (go_at_call 18; refine hOz.out.mono ?_; rintro e w' ⟨q0, q1, q2, rfl, ⟨⟨a6, l6, c6, rfl⟩, ⟨a7, l7, c7, rfl⟩, ⟨a8, l8, c8, rfl⟩⟩, y6, rfl, hQ⟩)
          rw [hon.out]
          have HQ0 := hQ hon.out
          clear hQ
          obtain ⟨b8, hB8⟩ : ∃ b8, y6.w.heap.size = b8 := ⟨_, rfl⟩
          obtain ⟨W5, hW5⟩ : ∃ W5, y6.w.alloc (.cells #[.slice a6 l6 c6, .slice a7 l7 c7, .slice a8 l8 c8] 26) = W5 := ⟨_, rfl⟩
          have hb5 : Below y6.w.heap.size y6.w W5 := hW5 ▸ below_alloc1 _ _
          have n8 : b8 < W5.heap.size := by rw [← hW5, ← hB8]; simp
          have d80 : ∀ y : Later W5, y.w.cell? ⟨b8, 0, none⟩ = some (.slice a6 l6 c6) := Later.cell n8 (by rw [← hW5, ← hB8]; exact World.cell?_alloc_at _ _ _ 0 rfl)
          have d81 : ∀ y : Later W5, y.w.cell? ⟨b8, 1, none⟩ = some (.slice a7 l7 c7) := Later.cell n8 (by rw [← hW5, ← hB8]; exact World.cell?_alloc_at _ _ _ 1 rfl)
          have d82 : ∀ y : Later W5, y.w.cell? ⟨b8, 2, none⟩ = some (.slice a8 l8 c8) := Later.cell n8 (by rw [← hW5, ← hB8]; exact World.cell?_alloc_at _ _ _ 2 rfl)
          have s8 : ∀ y : Later W5, b8 < y.w.heap.size := Later.size n8
          have hyz : Below y.w.heap.size y.w W5 := (below_then z.h y6).trans (hb5.mono (below_then z.h y6).size)
          have hb35 : Below y3.w.heap.size y3.w W5 := (below_then x.h y).trans (hyz.mono (below_then x.h y).size)
          have HQ := Lib.hid (HQ0.below hb5)
          have hs1b := Lib.hid (fun v : Later W5 => rSameInts v _ _ (listed (items p) s) S (IS.out.below hyz) ((IR.out.below (x.up y).h).below hyz))
          have hs2b := Lib.hid (fun v : Later W5 => rSameInts v _ _ (listed (items p) s) C (IS.out.below hyz) ((IC.out.below (x.up y).h).below hyz))
          have hW := Lib.hid (fun v : Later W5 => pWitness v _ _ _ (subP p s) i q HQ.out)
          have hF := Lib.hid (fun v : Later W5 => pFirst v _ _ _ (subP p s) HQ.out)
          rw [hdd1.out] at hs1b
          rw [hdd2.out] at hs2b
          rw [hW5, hB8]
          clear hW5 hB8 hb5 HQ0 hOz
          show Code.wp _ _ _ _ (Later.now W5).w
          generalize Later.now W5 = v1
          go_upto_region 23 with (go_at_call 16; refine (hW.out v1).mono ?_; rintro e w' ⟨u, rfl, v2, rfl, hI⟩; obtain ⟨a9, c9, rfl, hx1, hx2⟩ := hI; clear hx1 hx2)
          go_upto_region 24 with (go_at_call 30; refine (hF.out v2).mono ?_; rintro e w' ⟨u, rfl, v3, rfl, hI⟩; obtain ⟨a10, c10, rfl, hx1, hx2⟩ := hI; clear hx1 hx2)
          clear hW hF d80 d81 d82 s8 HQ pp0 pp1 pp2 ss1 hch hOn v1 v2
          obtain ⟨wW, hwW⟩ : ∃ e, witE (subP p s) i q = e := ⟨_, rfl⟩
          obtain ⟨fF, hfF⟩ : ∃ e, firstE (subP p s) = e := ⟨_, rfl⟩
          have hww := hWq.out s
          have hff := hFq.out s
          rw [hwW] at hww hsame1 hr1 ⊢
          rw [hfF] at hff hsame2 hc1 ⊢
          generalize (witL (subP p s) i q).length = lw
          generalize (firstL (subP p s)).length = lf
          clear hwW hfF
          rcases hww with rfl | rfl <;> rcases hff with rfl | rfl
          · as_aux_lemma =>
              have hd1 : d1 = false := Bool.eq_false_iff.2 (fun h => absurd (hsame1 h) (by decide))
              subst hd1
              have hd2 : d2 = false := Bool.eq_false_iff.2 (fun h => absurd (hsame2 h) (by decide))
              subst hd2
              clear hr1 hr2 hc1 hc2 hsame1 hsame2
              skip
              go_wp2_with (first | (have hx := v4.h; clear hx; go_at_call 20; refine (hs2b.out v4).mono ?_; rintro e w' ⟨rfl, v5, rfl⟩) | (go_at_call 20; refine (hs1b.out v3).mono ?_; rintro e w' ⟨rfl, v4, rfl⟩))
              go_roundw
              case rel => exact ⟨s + 1, by omega, by go_num, by first | (rw [HS1.out]; rfl) | (rw [HS1.out]; simp), by first | (rw [HS2.out]; rfl) | (rw [HS2.out]; simp), ⟨v5.w, below_then hb35 v5⟩, rfl⟩
              case measure => simp [intOf]; omega
          · as_aux_lemma =>
              have hd1 : d1 = false := Bool.eq_false_iff.2 (fun h => absurd (hsame1 h) (by decide))
              subst hd1
              have hl2 : C.length ≤ (listed (items p) s).length := hc1 (by trivial) (by trivial)
              have hl2b : decide ((listed (items p) s).length < C.length) = false := decide_eq_false (by omega)
              have hl2c : decide (((listed (items p) s).length : Int) < (C.length : Int)) = false := decide_eq_false (by omega)
              clear hr1 hr2 hc1 hc2 hsame1 hsame2
              cases d2
              all_goals
                go_wp2_with (first | (have hx := v4.h; clear hx; go_at_call 20; refine (hs2b.out v4).mono ?_; rintro e w' ⟨rfl, v5, rfl⟩) | (go_at_call 20; refine (hs1b.out v3).mono ?_; rintro e w' ⟨rfl, v4, rfl⟩))
                go_roundw
                case rel => exact ⟨s + 1, by omega, by go_num, by first | (rw [HS1.out]; rfl) | (rw [HS1.out]; simp), by first | (rw [HS2.out]; rfl) | (rw [HS2.out]; simp), ⟨v5.w, below_then hb35 v5⟩, rfl⟩
                case measure => simp [intOf]; omega
          · as_aux_lemma =>
              have hd2 : d2 = false := Bool.eq_false_iff.2 (fun h => absurd (hsame2 h) (by decide))
              subst hd2
              have hl1 : S.length ≤ (listed (items p) s).length := hr1 (by trivial) (by trivial)
              have hl1b : decide ((listed (items p) s).length < S.length) = false := decide_eq_false (by omega)
              have hl1c : decide (((listed (items p) s).length : Int) < (S.length : Int)) = false := decide_eq_false (by omega)
              clear hr1 hr2 hc1 hc2 hsame1 hsame2
              cases d1
              all_goals
                go_wp2_with (first | (have hx := v4.h; clear hx; go_at_call 20; refine (hs2b.out v4).mono ?_; rintro e w' ⟨rfl, v5, rfl⟩) | (go_at_call 20; refine (hs1b.out v3).mono ?_; rintro e w' ⟨rfl, v4, rfl⟩))
                go_roundw
                case rel => exact ⟨s + 1, by omega, by go_num, by first | (rw [HS1.out]; rfl) | (rw [HS1.out]; simp), by first | (rw [HS2.out]; rfl) | (rw [HS2.out]; simp), ⟨v5.w, below_then hb35 v5⟩, rfl⟩
                case measure => simp [intOf]; omega
          · as_aux_lemma =>
              have hl1 : S.length ≤ (listed (items p) s).length := hr1 (by trivial) (by trivial)
              have hl1b : decide ((listed (items p) s).length < S.length) = false := decide_eq_false (by omega)
              have hl1c : decide (((listed (items p) s).length : Int) < (S.length : Int)) = false := decide_eq_false (by omega)
              have hl2 : C.length ≤ (listed (items p) s).length := hc1 (by trivial) (by trivial)
              have hl2b : decide ((listed (items p) s).length < C.length) = false := decide_eq_false (by omega)
              have hl2c : decide (((listed (items p) s).length : Int) < (C.length : Int)) = false := decide_eq_false (by omega)
              clear hr1 hr2 hc1 hc2 hsame1 hsame2
              cases d1 <;> cases d2
              all_goals
                go_wp2_with (first | (have hx := v4.h; clear hx; go_at_call 20; refine (hs2b.out v4).mono ?_; rintro e w' ⟨rfl, v5, rfl⟩) | (go_at_call 20; refine (hs1b.out v3).mono ?_; rintro e w' ⟨rfl, v4, rfl⟩))
                go_roundw
                case rel => exact ⟨s + 1, by omega, by go_num, by first | (rw [HS1.out]; rfl) | (rw [HS1.out]; simp), by first | (rw [HS2.out]; rfl) | (rw [HS2.out]; simp), ⟨v5.w, below_then hb35 v5⟩, rfl⟩
                case measure => simp [intOf]; omega
        · go_upto_region 21 with (fail)
          obtain ⟨z, hz⟩ : ∃ z : Later y.w, y.w = z.w := ⟨Later.now y.w, rfl⟩
          rw [hz]
          clear hz
          have hOz := Lib.hid (hOn.out z)
          go_upto_region 22 with (go_at_call 18; refine hOz.out.mono ?_; rintro e w' ⟨q0, q1, q2, rfl, ⟨⟨a6, l6, c6, rfl⟩, ⟨a7, l7, c7, rfl⟩, ⟨a8, l8, c8, rfl⟩⟩, y6, rfl, hQ⟩)
          rw [hon.out]
          have HQ0 := hQ hon.out
          clear hQ
          obtain ⟨b8, hB8⟩ : ∃ b8, y6.w.heap.size = b8 := ⟨_, rfl⟩
          obtain ⟨W5, hW5⟩ : ∃ W5, y6.w.alloc (.cells #[.slice a6 l6 c6, .slice a7 l7 c7, .slice a8 l8 c8] 26) = W5 := ⟨_, rfl⟩
          have hb5 : Below y6.w.heap.size y6.w W5 := hW5 ▸ below_alloc1 _ _
          have n8 : b8 < W5.heap.size := by rw [← hW5, ← hB8]; simp
          have d80 : ∀ y : Later W5, y.w.cell? ⟨b8, 0, none⟩ = some (.slice a6 l6 c6) := Later.cell n8 (by rw [← hW5, ← hB8]; exact World.cell?_alloc_at _ _ _ 0 rfl)
          have d81 : ∀ y : Later W5, y.w.cell? ⟨b8, 1, none⟩ = some (.slice a7 l7 c7) := Later.cell n8 (by rw [← hW5, ← hB8]; exact World.cell?_alloc_at _ _ _ 1 rfl)
          have d82 : ∀ y : Later W5, y.w.cell? ⟨b8, 2, none⟩ = some (.slice a8 l8 c8) := Later.cell n8 (by rw [← hW5, ← hB8]; exact World.cell?_alloc_at _ _ _ 2 rfl)
          have s8 : ∀ y : Later W5, b8 < y.w.heap.size := Later.size n8
          have hyz : Below y.w.heap.size y.w W5 := (below_then z.h y6).trans (hb5.mono (below_then z.h y6).size)
          have hb35 : Below y3.w.heap.size y3.w W5 := (below_then x.h y).trans (hyz.mono (below_then x.h y).size)
          have HQ := Lib.hid (HQ0.below hb5)
          have hs1b := Lib.hid (fun v : Later W5 => rSameInts v _ _ (listed (items p) s) S (IS.out.below hyz) ((IR.out.below (x.up y).h).below hyz))
          have hs2b := Lib.hid (fun v : Later W5 => rSameInts v _ _ (listed (items p) s) C (IS.out.below hyz) ((IC.out.below (x.up y).h).below hyz))
          have hW := Lib.hid (fun v : Later W5 => pWitness v _ _ _ (subP p s) i q HQ.out)
          have hF := Lib.hid (fun v : Later W5 => pFirst v _ _ _ (subP p s) HQ.out)
          rw [hdd1.out] at hs1b
          rw [hdd2.out] at hs2b
          rw [hW5, hB8]
          clear hW5 hB8 hb5 HQ0 hOz
          show Code.wp _ _ _ _ (Later.now W5).w
          generalize Later.now W5 = v1
          go_upto_region 23 with (go_at_call 16; refine (hW.out v1).mono ?_; rintro e w' ⟨u, rfl, v2, rfl, hI⟩; obtain ⟨a9, c9, rfl, hx1, hx2⟩ := hI; clear hx1 hx2)
          go_upto_region 24 with (go_at_call 30; refine (hF.out v2).mono ?_; rintro e w' ⟨u, rfl, v3, rfl, hI⟩; obtain ⟨a10, c10, rfl, hx1, hx2⟩ := hI; clear hx1 hx2)
          clear hW hF d80 d81 d82 s8 HQ pp0 pp1 pp2 ss1 hch hOn v1 v2
          obtain ⟨wW, hwW⟩ : ∃ e, witE (subP p s) i q = e := ⟨_, rfl⟩
          obtain ⟨fF, hfF⟩ : ∃ e, firstE (subP p s) = e := ⟨_, rfl⟩
          have hww := hWq.out s
          have hff := hFq.out s
          rw [hwW] at hww hsame1 hr1 ⊢
          rw [hfF] at hff hsame2 hc1 ⊢
          generalize (witL (subP p s) i q).length = lw
          generalize (firstL (subP p s)).length = lf
          clear hwW hfF
          rcases hww with rfl | rfl <;> rcases hff with rfl | rfl
          · as_aux_lemma =>
              have hd1 : d1 = false := Bool.eq_false_iff.2 (fun h => absurd (hsame1 h) (by decide))
              subst hd1
              have hd2 : d2 = false := Bool.eq_false_iff.2 (fun h => absurd (hsame2 h) (by decide))
              subst hd2
              clear hr1 hr2 hc1 hc2 hsame1 hsame2
              skip
              go_wp2_with (first | (have hx := v4.h; clear hx; go_at_call 20; refine (hs2b.out v4).mono ?_; rintro e w' ⟨rfl, v5, rfl⟩) | (go_at_call 20; refine (hs1b.out v3).mono ?_; rintro e w' ⟨rfl, v4, rfl⟩))
              go_roundw
              case rel => exact ⟨s + 1, by omega, by go_num, by first | (rw [HS1.out]; rfl) | (rw [HS1.out]; simp), by first | (rw [HS2.out]; rfl) | (rw [HS2.out]; simp), ⟨v5.w, below_then hb35 v5⟩, rfl⟩
              case measure => simp [intOf]; omega
          · as_aux_lemma =>
              have hd1 : d1 = false := Bool.eq_false_iff.2 (fun h => absurd (hsame1 h) (by decide))
              subst hd1
              have hl2 : C.length ≤ (listed (items p) s).length := hc1 (by trivial) (by trivial)
              have hl2b : decide ((listed (items p) s).length < C.length) = false := decide_eq_false (by omega)
              have hl2c : decide (((listed (items p) s).length : Int) < (C.length : Int)) = false := decide_eq_false (by omega)
              clear hr1 hr2 hc1 hc2 hsame1 hsame2
              cases d2
              all_goals
                go_wp2_with (first | (have hx := v4.h; clear hx; go_at_call 20; refine (hs2b.out v4).mono ?_; rintro e w' ⟨rfl, v5, rfl⟩) | (go_at_call 20; refine (hs1b.out v3).mono ?_; rintro e w' ⟨rfl, v4, rfl⟩))
                go_roundw
                case rel => exact ⟨s + 1, by omega, by go_num, by first | (rw [HS1.out]; rfl) | (rw [HS1.out]; simp), by first | (rw [HS2.out]; rfl) | (rw [HS2.out]; simp), ⟨v5.w, below_then hb35 v5⟩, rfl⟩
                case measure => simp [intOf]; omega
          · as_aux_lemma =>
              have hd2 : d2 = false := Bool.eq_false_iff.2 (fun h => absurd (hsame2 h) (by decide))
              subst hd2
              have hl1 : S.length ≤ (listed (items p) s).length := hr1 (by trivial) (by trivial)
              have hl1b : decide ((listed (items p) s).length < S.length) = false := decide_eq_false (by omega)
              have hl1c : decide (((listed (items p) s).length : Int) < (S.length : Int)) = false := decide_eq_false (by omega)
              clear hr1 hr2 hc1 hc2 hsame1 hsame2
              cases d1
              all_goals
                go_wp2_with (first | (have hx := v4.h; clear hx; go_at_call 20; refine (hs2b.out v4).mono ?_; rintro e w' ⟨rfl, v5, rfl⟩) | (go_at_call 20; refine (hs1b.out v3).mono ?_; rintro e w' ⟨rfl, v4, rfl⟩))
                go_roundw
                case rel => exact ⟨s + 1, by omega, by go_num, by first | (rw [HS1.out]; rfl) | (rw [HS1.out]; simp), by first | (rw [HS2.out]; rfl) | (rw [HS2.out]; simp), ⟨v5.w, below_then hb35 v5⟩, rfl⟩
                case measure => simp [intOf]; omega
          · as_aux_lemma =>
              have hl1 : S.length ≤ (listed (items p) s).length := hr1 (by trivial) (by trivial)
              have hl1b : decide ((listed (items p) s).length < S.length) = false := decide_eq_false (by omega)
              have hl1c : decide (((listed (items p) s).length : Int) < (S.length : Int)) = false := decide_eq_false (by omega)
              have hl2 : C.length ≤ (listed (items p) s).length := hc1 (by trivial) (by trivial)
              have hl2b : decide ((listed (items p) s).length < C.length) = false := decide_eq_false (by omega)
              have hl2c : decide (((listed (items p) s).length : Int) < (C.length : Int)) = false := decide_eq_false (by omega)
              clear hr1 hr2 hc1 hc2 hsame1 hsame2
              cases d1 <;> cases d2
              all_goals
                go_wp2_with (first | (have hx := v4.h; clear hx; go_at_call 20; refine (hs2b.out v4).mono ?_; rintro e w' ⟨rfl, v5, rfl⟩) | (go_at_call 20; refine (hs1b.out v3).mono ?_; rintro e w' ⟨rfl, v4, rfl⟩))
                go_roundw
                case rel => exact ⟨s + 1, by omega, by go_num, by first | (rw [HS1.out]; rfl) | (rw [HS1.out]; simp), by first | (rw [HS2.out]; rfl) | (rw [HS2.out]; simp), ⟨v5.w, below_then hb35 v5⟩, rfl⟩
                case measure => simp [intOf]; omega
      · obtain rfl : s = N := by omega
        have hm1 : metTo (items p) S s = true := by obtain ⟨b, hb, e⟩ := hR1.out (by trivial); exact metTo_of e s (by rw [hN.out, ← hn.out]; exact hb)
        rw [hm1]
        have hm2 : metTo (items p) C s = true := by obtain ⟨b, hb, e⟩ := hC1.out (by trivial); exact metTo_of e s (by rw [hN.out, ← hn.out]; exact hb)
        rw [hm2]
        go_wp2
        go_ret; exact hbase.out _
end Go.Proofs.Ytmpkbolabdmkkaa
