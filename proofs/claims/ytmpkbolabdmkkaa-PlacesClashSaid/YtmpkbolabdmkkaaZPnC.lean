/- CONTRACT of places' Prune. -/
import Derived.Test.YtmpkbolabdmkkaaZPnB
import Derived.Test.YtmpkbolabdmkkaaZPlY
namespace Go.Proofs.Ytmpkbolabdmkkaa
open Go.RowKit

/-- a table is handed back, or 70 -/
def EndsPruned (W : World) (p : Prob) (e : Ending) (w' : World) : Prop := ∃ (v : Value) (n : Int) (t : List (List Bool)), e = .returned (.tuple #[v, .int .i64 n]) ∧ (∃ y : Later W, w' = y.w ∧ IsBoolss y.w v t) ∧
  ((validP p = false ∧ n = 70 ∧ t = []) ∨ (validP p = true ∧ n = 0 ∧ Prunes p (fullTab p true) t))

theorem cnt_row {p : Prob} {t : List (List Bool)} (h : Shp p t) {i : Nat} (hi : i < p.opts.length) : ∀ o, o ≤ (nth p.opts i).length → cntT (rowTo p t i o) ≤ cntT t
  | 0, _ => Nat.le_refl _
  | o + 1, ho => by
    have ih := cnt_row h hi o (by omega)
    show cntT (strikeT p (rowTo p t i o) i o) ≤ _
    cases hb : strikeB p (rowTo p t i o) i o
    · rw [strikeT_no hb]; exact ih
    · have := cnt_strike (h.rowTo i o) hi (by omega) hb; omega
theorem cnt_pass {p : Prob} {t : List (List Bool)} (h : Shp p t) : ∀ i, i ≤ p.opts.length → cntT (passTo p t i) ≤ cntT t
  | 0, _ => Nat.le_refl _
  | i + 1, hi => by
    have ih := cnt_pass h i (by omega)
    have := cnt_row (h.passTo i) (i := i) (by omega) _ (Nat.le_refl _)
    show cntT (rowTo p (passTo p t i) i _) ≤ _
    omega

set_option maxRecDepth 100000 in
set_option maxHeartbeats 4000000 in
theorem pPrune {W : World} (x : Later W) (v0 v1 v2 : Value) (p : Prob) (hp : IsProb W v0 v1 v2 p) :
    Calls Try.prog 43 #[.agg #[v0, v1, v2]] x.w (EndsPruned W p) := by
  go_enter Try.func43, Try.ntmps43
  go_upto_region 1 with (fail)
  obtain ⟨W1, x1, e1, hb1, s1, p0, p1, p2⟩ := enter3 x v0 v1 v2 26
  rw [e1]; clear e1
  have HP := Lib.hid (hp.below hb1)
  obtain ⟨ap, cp, rfl, lp, _⟩ := hp.panes.opened
  obtain ⟨ao, co, rfl, lo, _⟩ := hp.opts.opened
  obtain ⟨ar, cr, rfl, lr, _⟩ := hp.rules.opened
  clear hp
  have hV0 := Lib.hid (fun y : Later W1 => pValid y _ _ _ p HP.out)
  cases hv : validP p
  · rw [hv] at hV0
    have hfin : Hid (∀ y : Later W1, EndsPruned W p (.returned (.tuple #[.slice none 0 0, .int .i64 70])) y.w) := Lib.hid (fun y => by
      obtain ⟨z, hz⟩ := y.down hb1
      exact ⟨_, _, [], rfl, ⟨z, hz, isBoolss_nil _⟩, .inl ⟨hv, rfl, rfl⟩⟩)
    go_wp2_with (go_at_call 36; refine (hV0.out x1).mono ?_; rintro e w' ⟨rfl, x1, rfl⟩)
    go_ret2
    exact hfin.out _
  rw [hv] at hV0
  have hflen : (fullTab p true).length = p.opts.length := fullTo_len p true (Nat.le_refl _)
  replace hflen := Lib.hid hflen
  go_upto_region 4 with (first | (go_at_call 36; refine (hV0.out x1).mono ?_; rintro e w' ⟨rfl, x1, rfl⟩) | (go_at_call 103; refine (ptable x1 _ _ _ p true HP.out hv).mono ?_; rintro e w' ⟨v, rfl, x2, rfl, vs, htab, _⟩; obtain ⟨at_, ct, rfl⟩ := htab.slice; rw [hflen.out] at htab ⊢))
  have hb2 : Below W1.heap.size W1 (x2.w.alloc (.cells #[.slice at_ p.opts.length ct] 48)) := x2.h.alloc x2.h.size _
  obtain ⟨W2, hW2⟩ : ∃ W2, x2.w.alloc (.cells #[.slice at_ p.opts.length ct] 48) = W2 := ⟨_, rfl⟩
  obtain ⟨b4, hB4⟩ : ∃ b4, x2.w.heap.size = b4 := ⟨_, rfl⟩
  have hWb : W1.heap.size ≤ b4 := hB4 ▸ x2.h.size
  have hT2 : TabAt W1 b4 (.slice at_ p.opts.length ct) (fullTab p true) vs W2 := by
    have hb22 : Below x2.w.heap.size x2.w W2 := hW2 ▸ below_alloc1 _ _
    refine ⟨⟨x2.up ⟨W2, hb22⟩, rfl, htab.later hb22⟩, by rw [← hW2, ← hB4]; simp, hWb, by rw [← hW2, ← hB4]; exact World.cell?_alloc_at _ _ _ 0 rfl, fun b hb => ?_, fun i q b hq hb => hB4 ▸ htab.block i q b hq hb⟩
    exact hB4 ▸ (htab.outer.lt b hb).2
  rw [hW2, hB4]
  clear htab hb2 hW2 hB4 x2
  replace hT2 := Lib.hid hT2
  go_wp2
  go_loopg [5] (cntT (fullTab p true) + 1) (fun g ch wr => ∃ t, TabAt W1 b4 (.slice at_ p.opts.length ct) t vs wr ∧ Shp p t ∧ ((ch = .bool true ∧ g = cntT t + 1 ∧ ∀ out, Prunes p t out → Prunes p (fullTab p true) out) ∨ (ch = .bool false ∧ g = 0 ∧ Prunes p (fullTab p true) t)))
  case atStart => exact ⟨_, hT2.out, shp_full p true, .inl ⟨rfl, rfl, fun _ h => h⟩⟩
  case round =>
    rename_i wr _
    clear hT2 W2
    obtain ⟨t, hT, hs, ⟨rfl, hg, hpr⟩ | ⟨rfl, hg, hpr⟩⟩ := hrel
    · replace hg := Lib.hid hg
      replace hpr := Lib.hid hpr
      have hT' := Lib.hid hT
      have c4 := hT.cell
      have hz4 := hT.size
      obtain ⟨z, rfl⟩ := hT.later
      clear hT
      go_wp2
      go_loopw [5, 17] (fun ch iv wr => ∃ i : Nat, i ≤ p.opts.length ∧ iv = .int .i64 i ∧ ch = .bool (decide (cntT (passTo p t i) < cntT t)) ∧ TabAt W1 b4 (.slice at_ p.opts.length ct) (passTo p t i) vs wr) (fun _ i _ => p.opts.length - (intOf i).toNat)
      case atStart => exact ⟨0, Nat.zero_le _, rfl, by simp [passTo], hT'.out⟩
      case round =>
        rename_i wr _
        clear hT' c4 hz4 z
        obtain ⟨i, hi, rfl, rfl, hT⟩ := hrel
        by_cases hlt : i < p.opts.length
        · have hs1 := hs.passTo i
          have hlen1 := hs1.len
          have hrl1 := hs1.row i hlt
          obtain ⟨hv1, hv2⟩ := valid_opts hv hlt
          obtain ⟨g, c2, gr, cr', hq, e0, hx1, hx2, hgb, hx3, hx4⟩ := hT.at_ (i := i) (k := 0) (by rw [hlen1]; exact hlt) (by rw [hrl1]; omega)
          clear hx1 hx2 hx3 hx4
          rw [hlen1] at hq
          cases hq
          rw [hrl1] at e0
          have hgz := hT.blk g rfl
          have c4 := hT.cell
          have hz4 := hT.size
          have hT' := Lib.hid hT
          obtain ⟨z, rfl⟩ := hT.later
          clear hT hlen1 hrl1
          go_upto_region 10 with (fail)
          obtain ⟨b6, hB6⟩ : ∃ b6, z.w.heap.size = b6 := ⟨_, rfl⟩
          obtain ⟨A, hA⟩ : ∃ A, z.w.alloc (.cells #[.int .i64 i] 3) = A := ⟨_, rfl⟩
          have hzA : Below z.w.heap.size z.w A := hA ▸ below_alloc1 _ _
          have hTA : TabAt W1 b4 (.slice (some ⟨g, 0, none⟩) p.opts.length ct) (passTo p t i) vs A := hT'.out.up ⟨A, hzA⟩
          have c6 : A.cell? ⟨b6, 0, none⟩ = some (.int .i64 i) := by rw [← hA, ← hB6]; exact World.cell?_alloc_at _ _ _ 0 rfl
          have hs6 : b6 < A.heap.size := by rw [← hA, ← hB6]; simp
          have hb46 : b4 < b6 := by omega
          have eA : A.cell? ⟨g, i, none⟩ = some (.slice (some ⟨gr, 0, none⟩) (nth p.opts i).length cr') := (hzA.cell (p := ⟨g, i, none⟩) (by show g < _; omega)).trans e0
          have c4A := hTA.cell
          have hz4A := hTA.size
          have hgA : g < A.heap.size := by omega
          rw [hA, hB6]
          clear hA hB6 hzA hT' e0 c4 hz4
          replace hTA := Lib.hid hTA
          go_wp2
          go_loopw [5, 25] (fun ch ov wr => ∃ o : Nat, o ≤ (nth p.opts i).length ∧ ov = .int .i64 o ∧ ch = .bool (decide (cntT (rowTo p (passTo p t i) i o) < cntT t)) ∧ TabAt W1 b4 (.slice (some ⟨g, 0, none⟩) p.opts.length ct) (rowTo p (passTo p t i) i o) vs wr ∧ wr.cell? ⟨b6, 0, none⟩ = some (.int .i64 i) ∧ b6 < wr.heap.size ∧ wr.cell? ⟨g, i, none⟩ = some (.slice (some ⟨gr, 0, none⟩) (nth p.opts i).length cr')) (fun _ ov _ => (nth p.opts i).length - (intOf ov).toNat)
          case atStart => exact ⟨0, Nat.zero_le _, rfl, rfl, hTA.out, c6, hs6, eA⟩
          case round =>
            rename_i wr _
            clear hTA c6 hs6 eA c4A hz4A hgA A z
            obtain ⟨o, ho, rfl, rfl, hT, c6, hs6, eA⟩ := hrel
            by_cases hlto : o < (nth p.opts i).length
            · have hs2 := hs1.rowTo i o
              have hlen2 := hs2.len
              have hrl2 := hs2.row i hlt
              obtain ⟨g', c3, gr', cr2, hq, e0, f0, f1, hgb2, hgw2, hset⟩ := hT.at_ (i := i) (k := o) (by rw [hlen2]; exact hlt) (by rw [hrl2]; exact hlto)
              rw [hlen2] at hq
              cases hq
              rw [hrl2] at e0
              have heq := eA.symm.trans e0
              have hgw3 := hgw2
              cases heq
              clear e0 hset
              have hTw := Lib.hid hT
              obtain ⟨z, rfl⟩ := hT.later
              have c4 := hT.cell
              have hz4 := hT.size
              clear hT hlen2 hrl2
              go_upto_region 13 with (fail)
              obtain ⟨b7, hB7⟩ : ∃ b7, z.w.heap.size = b7 := ⟨_, rfl⟩
              obtain ⟨A, hA⟩ : ∃ A, z.w.alloc (.cells #[.int .i64 o] 3) = A := ⟨_, rfl⟩
              have hzA : Below z.w.heap.size z.w A := hA ▸ below_alloc1 _ _
              have hTA : TabAt W1 b4 (.slice (some ⟨g, 0, none⟩) p.opts.length ct) (rowTo p (passTo p t i) i o) vs A := hTw.out.up ⟨A, hzA⟩
              have C7 : ∀ y : Later A, y.w.cell? ⟨b7, 0, none⟩ = some (.int .i64 o) := Later.cell (by rw [← hA, ← hB7]; simp) (by rw [← hA, ← hB7]; exact World.cell?_alloc_at _ _ _ 0 rfl)
              have hs7 : b7 < A.heap.size := by rw [← hA, ← hB7]; simp
              have C6 : ∀ y : Later A, y.w.cell? ⟨b6, 0, none⟩ = some (.int .i64 i) := fun y => (below_then hzA y).cell (p := ⟨b6, 0, none⟩) hs6 |>.trans c6
              have hb67 : b6 < b7 := by omega
              have CA : ∀ y : Later A, y.w.cell? ⟨g, i, none⟩ = some (.slice (some ⟨gr, 0, none⟩) (nth p.opts i).length cr') := fun y => ((below_then hzA y).cell (p := ⟨g, i, none⟩) (by show g < _; omega)).trans eA
              have hgA : g < A.heap.size := by omega
              have hgrA : gr < A.heap.size := by omega
              have C4 : ∀ y : Later A, y.w.cell? ⟨b4, 0, none⟩ = some (.slice (some ⟨g, 0, none⟩) p.opts.length ct) := Later.cell hTA.size hTA.cell
              have hz4A := hTA.size
              obtain ⟨zA, hzA'⟩ := hTA.later
              have P0 : ∀ y : Later A, y.w.cell? ⟨x.w.heap.size, 0, none⟩ = some (.slice ap p.panes.length cp) := fun y => p0 ⟨y.w, zA.h.trans (hzA' ▸ y.h.mono (hzA' ▸ zA.h.size))⟩
              rw [hA, hB7]
              have P2 : ∀ y : Later A, y.w.cell? ⟨x.w.heap.size, 2, none⟩ = some (.slice ar p.rules.length cr) := fun y => p2 ⟨y.w, zA.h.trans (hzA' ▸ y.h.mono (hzA' ▸ zA.h.size))⟩
              have S0 : ∀ y : Later A, x.w.heap.size < y.w.heap.size := fun y => s1 ⟨y.w, zA.h.trans (hzA' ▸ y.h.mono (hzA' ▸ zA.h.size))⟩
              have hRu : IsRules A (.slice ar p.rules.length cr) p.rules := hzA' ▸ HP.out.rules.below zA.h
              have hTb : IsBoolss A (.slice (some ⟨g, 0, none⟩) p.opts.length ct) (rowTo p (passTo p t i) i o) := by
                obtain ⟨zt, hzt, hO⟩ := hTA.tab
                rw [hzt]
                exact hO.is (by have := hs2.len; have := lo; omega) (fun j hj => by have := hs2.row j (by rw [← hs2.len]; exact hj); have := valid_opts hv (i := j) (by rw [← hs2.len]; exact hj); omega)
              have hcnt : cntT (rowTo p (passTo p t i) i o) ≤ cntT t := by
                have h1 := cnt_pass hs i (by omega)
                have h2 := cnt_row hs1 hlt o (by omega)
                omega
              clear hA hB7 hTw
              replace hTA := Lib.hid hTA
              replace hcnt := Lib.hid hcnt
              show Code.wp _ _ _ _ (Later.now A).w
              generalize Later.now A = y
              cases hN : nth (nth (rowTo p (passTo p t i) i o) i) o
              · have hst : strikeB p (rowTo p (passTo p t i) i o) i o = false := by unfold strikeB; rw [hN]; rfl
                have hro : Hid (rowTo p (passTo p t i) i (o + 1) = rowTo p (passTo p t i) i o) := Lib.hid (strikeT_no hst)
                clear hst
                go_wp2
                go_roundw
                case rel => exact ⟨o + 1, by omega, by go_num, by rw [hro.out], by rw [hro.out]; exact hTA.out.up y, C6 y, by have := y.h.size; omega, CA y⟩
                case measure => simp [intOf]; omega
              · have hC := Lib.hid (fun y : Later A => phasStr y _ _ p (rowTo p (passTo p t i) i o) i o b4 b6 b7 hRu hTb hs2 hv hlt hlto C4 C6 C7)
                cases hB : anyB p (rowTo p (passTo p t i) i o) i o
                · have hst : strikeB p (rowTo p (passTo p t i) i o) i o = false := by unfold strikeB; rw [hN, hB]; rfl
                  have hro : Hid (rowTo p (passTo p t i) i (o + 1) = rowTo p (passTo p t i) i o) := Lib.hid (strikeT_no hst)
                  rw [hB] at hC
                  clear hst
                  go_wp2_with (go_at_call 104; refine (hC.out y).mono ?_; rintro e w' ⟨rfl, y, rfl⟩)
                  go_roundw
                  case rel => exact ⟨o + 1, by omega, by go_num, by rw [hro.out], by rw [hro.out]; exact hTA.out.up y, C6 y, by have := y.h.size; omega, CA y⟩
                  case measure => simp [intOf]; omega
                · have hst : strikeB p (rowTo p (passTo p t i) i o) i o = true := by unfold strikeB; rw [hN, hB]; rfl
                  have hro : Hid (rowTo p (passTo p t i) i (o + 1) = setTab (rowTo p (passTo p t i) i o) i o false) := Lib.hid (strikeT_yes hst)
                  have hlt3 : Hid (cntT (rowTo p (passTo p t i) i (o + 1)) < cntT t) := Lib.hid (by have h1 := cnt_strike hs2 hlt hlto hst; have h2 := hcnt.out; show cntT (strikeT p (rowTo p (passTo p t i) i o) i o) < _; omega)
                  rw [hB] at hC
                  clear hst
                  go_upto_region 14 with (go_at_call 104; refine (hC.out y).mono ?_; rintro e w' ⟨rfl, y, rfl⟩)
                  have hTy := hTA.out.up y
                  obtain ⟨g', c3, gr', cr2, hq, e0, f0, f1, hx1, hx2, hset⟩ := hTy.at_ (i := i) (k := o) (by rw [hs2.len]; exact hlt) (by rw [hs2.row i hlt]; exact hlto)
                  rw [hs2.len] at hq
                  cases hq
                  rw [hs2.row i hlt] at e0
                  have heq := (CA y).symm.trans e0
                  cases heq
                  have e6 := C6 y
                  have e7 := C7 y
                  have e4 := C4 y
                  have n6 : b6 < y.w.heap.size := by have := y.h.size; omega
                  have n7 : b7 < y.w.heap.size := by have := y.h.size; omega
                  have ng : g < y.w.heap.size := by have := y.h.size; omega
                  have ngr : gr < y.w.heap.size := by have := y.h.size; omega
                  have n4 := hTy.size
                  have hTB := hset false
                  obtain ⟨B, hBe⟩ : ∃ B, y.w.setCell ⟨gr, o, none⟩ (.bool false) = B := ⟨_, rfl⟩
                  have k6 : B.cell? ⟨b6, 0, none⟩ = some (.int .i64 i) := by rw [← hBe]; exact (World.cell?_setCell_other _ _ _ _ (fun e => by cases e; omega)).trans e6
                  have kg : B.cell? ⟨g, i, none⟩ = some (.slice (some ⟨gr, 0, none⟩) (nth p.opts i).length cr') := by
                    rw [← hBe]
                    refine (World.cell?_setCell_other _ _ _ _ (fun e => ?_)).trans e0
                    rw [← e, f0] at e0; cases e0
                  have kn6 : b6 < B.heap.size := by rw [← hBe]; simpa [World.setCell] using n6
                  have kng : g < B.heap.size := by rw [← hBe]; simpa [World.setCell] using ng
                  rw [hBe] at hTB
                  obtain ⟨zB, rfl⟩ := hTB.later
                  obtain ⟨zC, hzC, hbC⟩ := zB.drew1
                  have hTC : TabAt W1 b4 (.slice (some ⟨g, 0, none⟩) p.opts.length ct) (setTab (rowTo p (passTo p t i) i o) i o false) vs zC.w := hTB.up ⟨zC.w, hbC⟩
                  have m6 := (hbC.cell (p := ⟨b6, 0, none⟩) kn6).trans k6
                  have mg := (hbC.cell (p := ⟨g, i, none⟩) kng).trans kg
                  have mn6 : b6 < zC.w.heap.size := Nat.lt_of_lt_of_le kn6 hbC.size
                  replace hTC := Lib.hid hTC
                  replace m6 := Lib.hid m6
                  replace mg := Lib.hid mg
                  clear hset hTy hTB k6 kg hx1 hx2 kn6 kng
                  go_wp2
                  go_still_tail 6, (by kernel_rfl)
                  go_wp2
                  go_roundw
                  case rel => exact ⟨o + 1, by omega, by go_num, by rw [decide_eq_true hlt3.out], by rw [hro.out]; exact hTC.out, m6.out, mn6, mg.out⟩
                  case measure => simp [intOf]; omega
            · obtain rfl : o = (nth p.opts i).length := by omega
              go_wp2
              go_roundw
              case rel => exact ⟨i + 1, by omega, by go_num, rfl, hT⟩
              case measure => simp [intOf]; omega
        · obtain rfl : i = p.opts.length := by omega
          by_cases hc : cntT (passTo p t p.opts.length) < cntT t
          · rw [decide_eq_true hc]
            go_wp2
            go_roundg (cntT (passTo p t p.opts.length) + 1)
            case rel => exact ⟨_, hT, hs.passTo _, .inl ⟨rfl, rfl, fun out h => hpr.out out (.more hc h)⟩⟩
            case measure => have := hg.out; omega
          · rw [decide_eq_false hc]
            go_wp2
            go_roundg 0
            case rel => exact ⟨_, hT, hs.passTo _, .inr ⟨rfl, rfl, hpr.out _ (.stop (by have := cnt_pass hs p.opts.length (Nat.le_refl _); show cntT (passTo p t p.opts.length) = _; omega))⟩⟩
            case measure => have := hg.out; omega
    · have c4 := hT.cell
      have hz4 := hT.size
      have hshp := hs
      go_wp2
      go_ret2
      obtain ⟨z, hz, hO⟩ := hT.tab
      obtain ⟨z', hz', hO'⟩ := hO.down hb1
      refine ⟨_, _, t, rfl, ⟨z', hz.trans hz', ?_⟩, .inr ⟨hv, rfl, hpr⟩⟩
      exact hO'.is (by have := hshp.len; have := lo; omega) (fun i hi => by have := hshp.row i (by rw [← hshp.len]; exact hi); have := valid_opts hv (i := i) (by rw [← hshp.len]; exact hi); omega)
end Go.Proofs.Ytmpkbolabdmkkaa
