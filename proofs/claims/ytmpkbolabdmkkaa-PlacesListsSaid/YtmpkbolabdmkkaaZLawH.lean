/- CONTRACT of PlacesLists. -/
import Derived.Test.YtmpkbolabdmkkaaZLawG
import Derived.Test.YtmpkbolabdmkkaaZPmB
namespace Go.Proofs.Ytmpkbolabdmkkaa
open Go.RowKit

set_option maxRecDepth 100000 in
set_option maxHeartbeats 4000000 in
theorem lawLists {W : World} (x : Later W) (v0 v1 v2 : Value) (p : Prob) (hp : IsProb W v0 v1 v2 p) : Calls Try.prog 10 #[.agg #[v0, v1, v2]] x.w (Ends W (.bool true)) := by
  go_enter Try.func10, Try.ntmps10
  go_upto_region 1 with (fail)
  obtain ⟨W1, x1, e1, hb1, s1, p0, p1, p2⟩ := enter3 x v0 v1 v2 26
  rw [e1]; clear e1
  have HP := Lib.hid (hp.below hb1)
  obtain ⟨ap, cp, rfl, lp, _⟩ := hp.panes.opened
  obtain ⟨ao, co, rfl, lo, _⟩ := hp.opts.opened
  obtain ⟨ar, cr, rfl, lr, _⟩ := hp.rules.opened
  clear hp
  go_upto_region 2 with (go_at_call 14; refine (lawake x1).mono ?_; rintro e w' ⟨rfl, x1, rfl⟩)
  go_wp2_with (fail)
  refine (llight x1 _ _ _ p HP.out).mono ?_
  rintro e w' ⟨bs, rfl, x1, rfl⟩
  cases bs
  · go_wp2
    go_ret; exact ⟨rfl, x1.down hb1⟩
  have hB := hb1
  go_upto_region 6 with (first | (go_at_call 28; refine (pCount x1 _ _ _ p HP.out).mono ?_; rintro e w' ⟨rfl, x1, rfl⟩) | (go_at_call 30; refine (pFirst x1 _ _ _ p HP.out).mono ?_; rintro e w' ⟨u, rfl, y1, rfl, hI⟩; have I1 := Lib.hid hI; obtain ⟨a1, c1, rfl, hx1, hx2⟩ := hI; clear hx1 hx2))
  replace HP := Lib.hid (HP.out.below y1.h)
  replace p0 := Later.cells y1.h p0
  replace p1 := Later.cells y1.h p1
  replace p2 := Later.cells y1.h p2
  replace s1 := Later.sizes y1.h s1
  replace hB := below_then hB y1
  show Code.wp _ _ _ _ (Later.now y1.w).w
  generalize Later.now y1.w = xb
  go_upto_region 7 with (go_at_call 46; refine (pPossible xb _ _ _ p HP.out).mono ?_; rintro e w' ⟨u, rfl, y2, rfl, hI⟩; have I2 := Lib.hid hI; obtain ⟨a2, c2, rfl, hx1, hx2⟩ := hI; clear hx1 hx2)
  obtain ⟨W2, hW2⟩ : ∃ W2, y2.w = W2 := ⟨_, rfl⟩
  have hb12 := y2.h
  replace hB := below_then hB y2
  rw [hW2] at hb12 hB I2 ⊢
  clear hW2 y2
  replace HP := Lib.hid (HP.out.below hb12)
  replace p0 := Later.cells hb12 p0
  replace p1 := Later.cells hb12 p1
  replace p2 := Later.cells hb12 p2
  replace s1 := Later.sizes hb12 s1
  replace I1 := Lib.hid (I1.out.below hb12)
  have hbase : Hid (∀ y : Later W2, Ends W (.bool true) (.returned (.bool true)) y.w) := Lib.hid (fun y => ⟨rfl, ⟨y.w, below_then hB y⟩, rfl⟩)
  clear hb12 hB xb
  show Code.wp _ _ _ _ (Later.now W2).w
  generalize Later.now W2 = xb
  by_cases h0 : largeE p = 0
  case neg =>
    have hb0 : (largeE p != 0) = true := by simp [h0]
    have hfe : firstE p = largeE p := by simp [firstE, h0]
    rw [hfe]
    clear hfe h0
    go_wp2
    go_ret; exact hbase.out _
  by_cases hn0 : (agr p).length = 0
  · have hcv : countV p = 0 := by simp [countV, h0, hn0]
    have hfe : firstE p = 72 := by simp [firstE, h0, hn0]
    rw [hcv, hfe, h0]
    clear hcv hfe h0 hn0
    go_wp2
    go_ret; exact hbase.out _
  obtain ⟨n, hn⟩ : ∃ n, n = (agr p).length := ⟨_, rfl⟩
  have hcv : countV p = n := by simp [countV, h0, hn]
  have hfe : firstE p = 0 := by simp [firstE, h0, hn0]
  have hps : possL p = possT p := by simp [possL, h0]
  have hfl := firstL_0 hfe
  obtain ⟨hv, ht⟩ := largeE_0.1 h0
  have hpl := possT_length p
  rw [hps] at I2
  rw [hcv, hfe, h0, hps, hpl]
  rw [hfl] at I1 ⊢
  have hn1 : 1 ≤ n := by omega
  have hle := agr_len p
  have hn6 : n ≤ 65536 := by omega
  have hmm := Lib.hid (fun k (hk : k < n) => @agr_mem p hv (nth (agr p) k) (nth_mem (by omega)))
  have hnE := Lib.hid (fun k (hk : k < n) => @nextE_at p h0 k (by omega))
  have hnL := Lib.hid (fun k (hk : k < n) => @nextL_at p h0 k (by omega))
  rw [← hn] at hnE hnL
  have hLt := Lib.hid (fun i j (hij : i < j) (hj : j < n) => (@agr_lt p hv i j hij (by omega)).1)
  have hprow := Lib.hid (fun j => @possT_rowlen p j)
  have hsg := Lib.hid (fun i => @sgl_forced p hv hfe i)
  have h64 := valid_pane64 hv
  have hlen := Lib.hid (valid_len hv)
  have hVo := Lib.hid (fun i hi => @valid_opts p hv i hi)
  have hN64 : p.opts.length ≤ 64 := by have := hlen.out; omega
  have hfirstlen : (nth (agr p) 0).length = p.opts.length := (hmm.out 0 (by omega)).2.1
  rw [hfirstlen]
  replace hfirstlen := Lib.hid hfirstlen
  replace hcv := Lib.hid hcv
  replace hfl := Lib.hid hfl
  replace hn := Lib.hid hn
  replace hps := Lib.hid hps
  replace hfe := Lib.hid hfe
  replace hpl := Lib.hid hpl
  replace h0 := Lib.hid h0
  replace hn0 := Lib.hid hn0
  replace hle := Lib.hid hle
  obtain ⟨cs, hmk, hct⟩ := makeRows_run p.opts.length (by omega)
  replace hct := Lib.hid hct
  have hpo : p.panes.length = p.opts.length := hlen.out.symm
  rw [hpo] at p0 HP ⊢
  replace hpo := Lib.hid hpo
  go_upto_region 14 with (fail)
  rw [show ((n : Int) == 0) = false by simp; omega]
  obtain ⟨z, hz, hT⟩ := hct.out _ xb
  rw [hz]
  clear hct hmk
  obtain ⟨g, hg⟩ : ∃ g, g = xb.w.heap.size := ⟨_, rfl⟩
  rw [← hg] at hT ⊢
  clear hz hg
  have hT0 : OwnTab z (.slice (some ⟨g, 0, none⟩) p.opts.length p.opts.length) (tabTo p false 0) (List.replicate p.opts.length (.slice none 0 0)) := by
    unfold tabTo fullTo; simpa using hT
  clear hT cs
  replace hT0 := Lib.hid hT0
  have I2' := I2.out
  obtain ⟨_, _, hqq, _, hseen⟩ := I2'.opened
  rw [hpl.out] at hqq hseen
  cases hqq
  clear I2'
  go_wp2
  go_loopw [11] (fun i wr => ∃ k : Nat, k ≤ p.opts.length ∧ i = .int .i64 k ∧ ∃ y : Later W2, wr = y.w ∧ ∃ vs, OwnTab y (.slice (some ⟨g, 0, none⟩) p.opts.length p.opts.length) (tabTo p false k) vs ∧ ∀ j, k ≤ j → j < p.opts.length → vs[j]? = some (.slice none 0 0)) (fun i _ => p.opts.length - (intOf i).toNat)
  case atStart => exact ⟨0, Nat.zero_le _, rfl, z, rfl, _, hT0.out, fun j _ hj => by rw [List.getElem?_replicate, if_pos hj]⟩
  case round =>
    clear hT0
    obtain ⟨k, hk, rfl, ⟨x2, rfl, vs, hout, hnil⟩⟩ := hrel
    by_cases hlt : k < p.opts.length
    · obtain ⟨bt, ot, rfl, hbt, ut, t0, hTr⟩ := hseen.out k hlt
      obtain ⟨at1, ct1, rfl, _, _⟩ := hTr.opened
      have hrl1 := hprow.out k hlt
      rw [hrl1] at t0
      replace hrl1 := Lib.hid hrl1
      clear hTr
      have hl256 := (hVo.out k hlt).2
      obtain ⟨cs2, hmk2, hown2⟩ := makeBools_run (nth p.opts k).length (by omega)
      have HS := Lib.hid (@tabTo_set p false k hlt)
      have hP := @OwnTab.put _ x2 _ _ _ hout k (by rw [tabTo_len hk]; exact hlt) ⟨x2.w.alloc (.cells cs2 4), below_alloc1 _ _⟩ (.slice (some ⟨x2.w.heap.size, 0, none⟩) (nth p.opts k).length (nth p.opts k).length) (List.replicate (nth p.opts k).length false) (by rw [List.length_replicate]; exact hown2 x2.w) (fun j h1 h2 => hnil j (by omega) (by rwa [tabTo_len hk] at h2)) g p.opts.length (by rw [tabTo_len hk])
      obtain ⟨d0, d1, z', hz', hT'⟩ := hP
      change (x2.w.alloc (.cells cs2 4)).cell? _ = _ at d0
      change (x2.w.alloc (.cells cs2 4)).frozen? _ = _ at d1
      change (x2.w.alloc (.cells cs2 4)).setCell _ _ = _ at hz'
      rw [hnil k (Nat.le_refl _) hlt] at d0
      have hT2 := Lib.hid hT'
      have hnil' := Lib.hid hnil
      clear hT' hnil hout hown2
      go_wp2
      go_roundw
      case rel => exact ⟨k + 1, by omega, by go_num, z', rfl, _, by rw [← HS.out]; exact hT2.out, fun j h1 h2 => by rw [List.getElem?_set_ne (by omega)]; exact hnil'.out j (by omega) h2⟩
      case measure => simp [intOf]; omega
    · obtain rfl : k = p.opts.length := by omega
      have hOT : OwnTab x2 (.slice (some ⟨g, 0, none⟩) p.opts.length p.opts.length) (marksTo (fullTab p false) (agr p) p.opts.length 0) vs := by rw [tabTo_all] at hout; exact hout
      clear hout hnil hk hlt
      replace hOT := Lib.hid hOT
      have I1' := Lib.hid (I1.out.below x2.h)
      go_wp2
      go_loopw [6, 12] (fun fv kv wr => ∃ k : Nat, k ≤ n ∧ kv = .int .i64 k ∧ (∃ a l c, fv = .slice a l c) ∧ ∃ y : Later W2, wr = y.w ∧ OwnTab y (.slice (some ⟨g, 0, none⟩) p.opts.length p.opts.length) (marksTo (fullTab p false) (agr p) p.opts.length k) vs ∧ (k < n → IsInts y.w fv (nth (agr p) k))) (fun _ kv _ => n - (intOf kv).toNat)
      case atStart => exact ⟨0, Nat.zero_le _, rfl, ⟨_, _, _, rfl⟩, x2, rfl, hOT.out, fun _ => by have h := I1'.out; rw [← hfirstlen.out]; exact h⟩
      case round =>
        clear hOT I1'
        obtain ⟨k, hk, rfl, ⟨af, lf, cf, rfl⟩, ⟨x3, rfl, hOT, hIf⟩⟩ := hrel
        by_cases hlt : k < n
        · have hI := hIf hlt
          clear hIf
          obtain ⟨m1, m2, m3, m4⟩ := hmm.out k hlt
          have hwC := wrongC_0 hv m1
          have hagr : Hid (agrB p (nth (agr p) k) = true ∧ wrongC p (nth (agr p) k) = 0) := Lib.hid ⟨by simp [agrB, hwC, m4], hwC⟩
          clear hwC m1 m4
          obtain ⟨_, _, hqq, _, _⟩ := hI.opened
          cases hqq
          replace hOT := Lib.hid hOT
          have hA := Lib.hid (pAgrees (Later.now x3.w) _ _ _ _ p (nth (agr p) k) (HP.out.below x3.h) hI)
          rw [hagr.out.1, hagr.out.2] at hA
          replace hI := Lib.hid hI
          rw [m2] at hA ⊢
          replace m2 := Lib.hid m2
          replace m3 := Lib.hid m3
          go_upto_region 24 with (go_at_call 41; refine hA.out.mono ?_; rintro e w' ⟨rfl, y, rfl⟩)
          have hOTy := Lib.hid (hOT.out.later (z := x3.up y) y.h)
          have hIy0 := hI.out.below y.h
          rw [m2.out] at hIy0
          have hIy := Lib.hid hIy0
          clear hIy0
          go_wp2
          go_loopw [15] (fun jv wr => ∃ j : Nat, j ≤ p.opts.length ∧ jv = .int .i64 j ∧ ∃ z : Later W2, wr = z.w ∧ OwnTab z (.slice (some ⟨g, 0, none⟩) p.opts.length p.opts.length) (markTo (marksTo (fullTab p false) (agr p) p.opts.length k) (nth (agr p) k) j) vs ∧ IsInts z.w (.slice af p.opts.length cf) (nth (agr p) k)) (fun jv _ => p.opts.length - (intOf jv).toNat)
          case atStart => exact ⟨0, Nat.zero_le _, rfl, x3.up y, rfl, hOTy.out, hIy.out⟩
          case round =>
            clear hOT hI hA hOTy hIy y
            obtain ⟨j, hj, rfl, ⟨z, rfl, hOT, hI⟩⟩ := hrel
            by_cases hltj : j < p.opts.length
            · have hfm := m3.out j (by have := m2.out; omega)
              obtain ⟨r, hr⟩ := Int.eq_ofNat_of_zero_le hfm.1
              have hrl : r < (nth p.opts j).length := by omega
              have htl : (markTo (marksTo (fullTab p false) (agr p) p.opts.length k) (nth (agr p) k) j).length = p.opts.length := (markTo_shape _ _ j).1.trans (possT_len p k)
              have hrw := possT_row p k j (nth (agr p) k) hltj
              obtain ⟨g1, c3, q1, hv2, hg1, hq1, e0, hrowI, _⟩ := hOT.at_ (i := j) (by rw [htl]; exact hltj)
              rw [htl] at hv2
              cases hv2
              obtain ⟨ga, ca, rfl⟩ := owns_slice hrowI
              rw [hrw] at e0
              obtain ⟨_, _, hqq, _, hcf⟩ := id hI
              rw [m2.out] at hqq
              cases hqq
              obtain ⟨bf, of_, rfl, hbf, f0⟩ := hcf j (by have := m2.out; omega)
              rw [hr] at f0
              have hE0 := Later.cell (W := z.w) hg1 e0
              have hEs := Later.size (W := z.w) hg1
              have hF0 := Later.cell (W := z.w) hbf f0
              have hFs := Later.size (W := z.w) hbf
              clear hcf e0 f0 hq1 hrowI
              have hOTz := Lib.hid (fun q : Later z.w => hOT.later (z := z.up q) q.h)
              have hIz := Lib.hid (fun q : Later z.w => hI.below q.h)
              clear hOT hI
              replace hfm := Lib.hid hfm
              replace hr := Lib.hid hr
              replace htl := Lib.hid htl
              replace hrw := Lib.hid hrw
              have hrn : decide ((r : Int) < 0) = false := by simp
              have hrn2 : decide ((nth p.opts j).length ≤ r) = false := by simp; omega
              have hrn3 : decide (((nth p.opts j).length : Int) ≤ (r : Int)) = false := by simp; omega
              show Code.wp _ _ _ _ (Later.now z.w).w
              generalize Later.now z.w = q
              go_wp2
              refine wp_region_later q (by kernel_rfl) (by kernel_rfl) ?_
              repeat (go_big_quiet_step (fail))
              refine wpQuiet_nil ?_
              rintro _ ⟨q, rfl⟩
              have hOT := hOTz.out q
              have hI := hIz.out q
              obtain ⟨g2, c4, q2, hv2, hg2, hq2, e0, _, hrow⟩ := hOT.at_ (i := j) (by rw [htl.out]; exact hltj)
              rw [htl.out] at hv2
              cases hv2
              obtain ⟨g', c5, rfl, hg', f0, f1, hset⟩ := hrow r (by rw [hrw.out]; exact hrl)
              obtain ⟨z2, hz2, ht'⟩ := hset true
              have hi' := hI.setBool f0 (.bool true)
              change (q.w.setCell _ _) = _ at hz2
              change q.w.cell? _ = _ at e0 f0
              change q.w.frozen? _ = _ at f1
              change g' < q.w.heap.size at hg'
              change g < q.w.heap.size at hg2
              change IsInts (q.w.setCell _ _) _ _ at hi'
              rw [hz2] at hi'
              obtain ⟨z3, hz3, hzb⟩ := z2.drew1
              replace ht' := Lib.hid (ht'.later hzb)
              replace hi' := Lib.hid (hi'.below hzb)
              rw [hrw.out] at e0
              have hmk3 : Hid (setTab (markTo (marksTo (fullTab p false) (agr p) p.opts.length k) (nth (agr p) k) j) j r true = markTo (marksTo (fullTab p false) (agr p) p.opts.length k) (nth (agr p) k) (j + 1)) := Lib.hid (by show _ = setTab _ _ _ _; rw [hr.out]; rfl)
              clear hset hrow hq2 hOT hI hE0 hEs hOTz hIz hzb
              go_wp2
              go_still_tail 9, (by kernel_rfl)
              go_wp2
              go_roundw
              case rel => exact ⟨j + 1, by omega, by go_num, z3, rfl, by rw [← hmk3.out]; exact ht'.out, hi'.out⟩
              case measure => simp [intOf]; omega
            · obtain rfl : j = p.opts.length := by omega
              have hOT2 : OwnTab z (.slice (some ⟨g, 0, none⟩) p.opts.length p.opts.length) (marksTo (fullTab p false) (agr p) p.opts.length (k + 1)) vs := hOT
              clear hOT
              have hmn := m2.out
              have hNx := pNext (Later.now z.w) _ _ _ _ p (nth (agr p) k) (HP.out.below z.h) (by rw [← m2.out] at hI; exact hI)
              rw [m2.out, hnE.out k hlt, hnL.out k hlt] at hNx
              by_cases hk1 : k + 1 < n
              · rw [if_pos hk1, if_pos hk1] at hNx
                have hl1 := (hmm.out (k + 1) hk1).2.1
                have hBf := Lib.hid (fun (y : Later z.w) (v : Value) (hv1 : IsInts y.w v (nth (agr p) (k + 1))) => lbefore (Later.now y.w) _ v (nth (agr p) k) (nth (agr p) (k + 1)) (hI.below y.h) hv1 (by rw [m2.out, hl1]))
                rw [hLt.out k (k + 1) (Nat.lt_succ_self _) hk1] at hBf
                have hkn : decide ((k : Int) < (n : Int) - 1) = true := by simp; omega
                replace hmn := Lib.hid hmn
                replace hNx := Lib.hid hNx
                replace hl1 := Lib.hid hl1
                replace hI := Lib.hid hI
                replace hOT2 := Lib.hid hOT2
                go_wp2_with (first | (go_at_call 48; refine hNx.out.mono ?_; rintro e w' ⟨u, rfl, y4, rfl, hI4⟩; obtain ⟨y5, hy5⟩ : ∃ y5 : Later z.w, y4.w = y5.w := ⟨y4, rfl⟩; rw [hy5] at hI4 ⊢; clear hy5 y4; have hB5 := Lib.hid (hBf.out y5 u hI4); have hI5 := Lib.hid hI4; obtain ⟨a4, c4, rfl, hx1, hx2⟩ := hI4; clear hx1 hx2) | (go_at_call 49; refine hB5.out.mono ?_; rintro e w' ⟨rfl, y6, rfl⟩))
                go_roundw
                case rel => exact ⟨k + 1, by omega, by go_num, ⟨_, _, _, rfl⟩, ⟨(z.up y5).up y6, rfl, (hOT2.out.later (z := z.up y5) y5.h).later (z := (z.up y5).up y6) y6.h, fun _ => hI5.out.below y6.h⟩⟩
                case measure => simp [intOf]; omega
              · rw [if_neg hk1, if_neg hk1] at hNx
                have hkn : decide ((k : Int) < (n : Int) - 1) = false := by simp; omega
                replace hmn := Lib.hid hmn
                replace hNx := Lib.hid hNx
                replace hI := Lib.hid hI
                replace hOT2 := Lib.hid hOT2
                go_wp2_with (go_at_call 48; refine hNx.out.mono ?_; rintro e w' ⟨u, rfl, y4, rfl, hI4⟩; obtain ⟨y5, hy5⟩ : ∃ y5 : Later z.w, y4.w = y5.w := ⟨y4, rfl⟩; rw [hy5] at hI4 ⊢; clear hy5 y4; obtain ⟨a4, c4, rfl, hx1, hx2⟩ := hI4; clear hx1 hx2)
                go_roundw
                case rel => exact ⟨k + 1, by omega, by go_num, ⟨_, _, _, rfl⟩, ⟨z.up y5, rfl, hOT2.out.later (z := z.up y5) y5.h, fun h => absurd h hk1⟩⟩
                case measure => simp [intOf]; omega
        · obtain rfl : k = n := by omega
          clear hIf hlt
          have hnn := hn.out
          rw [hnn] at hOT
          replace hnn := Lib.hid hnn
          have hIs : IsBoolss x3.w (.slice (some ⟨g, 0, none⟩) p.opts.length p.opts.length) (possT p) := hOT.is (by have := possT_length p; unfold possT at this; rw [this]; omega) (fun i hi => by
            have h8 := possT_length p
            unfold possT at h8
            rw [h8] at hi
            have := hprow.out i hi
            unfold possT at this
            rw [this]; have := (hVo.out i hi).2; omega)
          clear hOT
          have hFo := pForced (Later.now x3.w) _ _ _ p (HP.out.below x3.h)
          rw [hfe.out] at hFo
          have hFl : (forcedR p).length = p.opts.length := by unfold forcedR; rw [if_pos hfe.out, forcedL_len]
          replace hFo := Lib.hid hFo
          have hFl2 := Lib.hid hFl
          have hI2b := Lib.hid (I2.out.below x3.h)
          replace hIs := Lib.hid hIs
          clear hFl
          go_upto_region 35 with (go_at_call 50; refine hFo.out.mono ?_; rintro e w' ⟨u, rfl, y5, rfl, hI5⟩; have I5 := Lib.hid hI5; obtain ⟨a5, c5, rfl, hx1, hx2⟩ := hI5; clear hx1 hx2; rw [hFl2.out])
          have hSm := Lib.hid (fun (y : Later y5.w) => rSameTables y _ _ _ _ (hIs.out.below y5.h) (hI2b.out.below y5.h))
          rw [decide_eq_true rfl] at hSm
          rw [hpl.out] at hSm
          have hbase3 : Hid (∀ y : Later y5.w, Ends W (.bool true) (.returned (.bool true)) y.w) := Lib.hid fun y => hbase.out (x3.up (y5.up y))
          obtain ⟨_, _, hqq, _, hfor⟩ := I5.out.opened
          rw [hFl2.out] at hqq hfor
          cases hqq
          obtain ⟨_, _, hqq, _, hhad⟩ := (hIs.out.below y5.h).opened
          rw [hpl.out] at hqq hhad
          cases hqq
          show Code.wp _ _ _ _ (Later.now y5.w).w
          generalize Later.now y5.w = q
          go_wp2_with (go_at_call 45; refine (hSm.out q).mono ?_; rintro e w' ⟨rfl, q, rfl⟩)
          go_loopw [20] (fun iv wr => ∃ j : Nat, j ≤ p.opts.length ∧ iv = .int .i64 j ∧ ∃ y : Later y5.w, wr = y.w) (fun iv _ => p.opts.length - (intOf iv).toNat)
          case atStart => exact ⟨0, Nat.zero_le _, rfl, q, rfl⟩
          case round =>
            clear q
            obtain ⟨j, hj, rfl, ⟨q, rfl⟩⟩ := hrel
            by_cases hltj : j < p.opts.length
            · obtain ⟨b1, o1, rfl, hb1', d1⟩ := hfor.out j hltj
              obtain ⟨b2, o2, he2, hb2', uu, d2, hU⟩ := hhad.out j hltj
              cases he2
              rw [Nat.zero_add] at d2
              have hL := Lib.hid (fun y : Later y5.w => lsingle y uu (nth (possT p) j) hU (by rw [hprow.out j hltj]; have := (hVo.out j hltj).2; omega))
              rw [hsg.out j hltj] at hL
              obtain ⟨au, cu, rfl, _, _⟩ := hU.opened
              clear hU
              go_wp2
              refine wp_region_later q (by kernel_rfl) (by kernel_rfl) ?_
              repeat (go_big_quiet_step ((go_at_call 51; exact hL.out _)))
              refine wpQuiet_nil ?_
              rintro _ ⟨q, rfl⟩
              go_wp2
              go_roundw
              case rel => exact ⟨j + 1, by omega, by go_num, q, rfl⟩
              case measure => simp [intOf]; omega
            · obtain rfl : j = p.opts.length := by omega
              go_wp2
              go_ret; exact hbase3.out _
end Go.Proofs.Ytmpkbolabdmkkaa
