/- CONTRACT of places' possible, Possible. -/
import Derived.Test.YtmpkbolabdmkkaaZPlX
import Derived.Test.YtmpkbolabdmkkaaZPlV
import Derived.Test.YtmpkbolabdmkkaaZd
namespace Go.Proofs.Ytmpkbolabdmkkaa
open Go.RowKit

theorem owns_block {w w' : World} {B : Nat} {e : TypeId} {sz n : Nat} {v : Value} {xs : List Value} (h : w.ownsRow B e sz v n xs) (hb : ∀ b, v.ownBlock = some b → w'.heap[b]? = w.heap[b]?) : w'.ownsRow B e sz v n xs := by
  refine ⟨h.1, ?_⟩
  rcases h.2 with h0 | ⟨g, cap, cur, rfl, h2, h3, h4⟩
  · exact .inl h0
  · exact .inr ⟨g, cap, cur, rfl, h2, (hb g rfl).trans h3, h4⟩
theorem OwnTab.moved {W : World} {y z : Later W} {v : Value} {t : List (List Bool)} {vs : List Value} (h : OwnTab y v t vs) {b2 : Nat} (hv : ∀ b, v.ownBlock = some b → b < b2) (hvs : ∀ (i : Nat) (q : Value) (b : Nat), vs[i]? = some q → q.ownBlock = some b → b < b2)
    (hb : ∀ k, k < b2 → z.w.heap[k]? = y.w.heap[k]?) : OwnTab z v t vs :=
  ⟨owns_block h.outer fun b hq => hb b (hv b hq), h.len, fun i hi => let ⟨u, hu, hI⟩ := h.rows i hi; ⟨u, hu, owns_block hI fun b hq => hb b (hvs i u b hu hq)⟩, h.apart⟩

/-- a table and its box behind it -/
structure TabAt (W : World) (b2 : Nat) (v : Value) (t : List (List Bool)) (vs : List Value) (A : World) : Prop where
  tab : ∃ z : Later W, A = z.w ∧ OwnTab z v t vs
  size : b2 < A.heap.size
  le : W.heap.size ≤ b2
  cell : A.cell? ⟨b2, 0, none⟩ = some v
  blk : ∀ b, v.ownBlock = some b → b < b2
  blks : ∀ (i : Nat) (q : Value) (b : Nat), vs[i]? = some q → q.ownBlock = some b → b < b2
theorem TabAt.later {W : World} {b2 : Nat} {v : Value} {t : List (List Bool)} {vs : List Value} {A : World} (h : TabAt W b2 v t vs A) : ∃ z : Later W, A = z.w := let ⟨z, hz, _⟩ := h.tab; ⟨z, hz⟩
theorem TabAt.eqb {W : World} {b2 B : Nat} {v : Value} {t : List (List Bool)} {vs : List Value} {A C : World} (h : TabAt W b2 v t vs A) (he : Eqb B A C) (hB : b2 < B) : TabAt W b2 v t vs C := by
  obtain ⟨z, rfl, hT⟩ := h.tab
  obtain ⟨z', hz'⟩ := he.later (W := W) (by have := h.le; omega) ⟨z, rfl⟩
  exact ⟨⟨z', hz', hT.moved h.blk h.blks fun k hk => by rw [← hz']; exact he.block k (by omega)⟩, Nat.lt_of_lt_of_le hB he.size, h.le, (he.cell (p := ⟨b2, 0, none⟩) hB).trans h.cell, h.blk, h.blks⟩
theorem TabAt.up {W : World} {b2 : Nat} {v : Value} {t : List (List Bool)} {vs : List Value} {A : World} (h : TabAt W b2 v t vs A) (y : Later A) : TabAt W b2 v t vs y.w :=
  h.eqb (Eqb.below y.h (Nat.le_refl _)) h.size
theorem TabAt.at_ {W : World} {b2 : Nat} {v : Value} {t : List (List Bool)} {vs : List Value} {A : World} (h : TabAt W b2 v t vs A) {i k : Nat} (hi : i < t.length) (hk : k < (nth t i).length) :
    ∃ g c g' c', v = .slice (some ⟨g, 0, none⟩) t.length c ∧ A.cell? ⟨g, i, none⟩ = some (.slice (some ⟨g', 0, none⟩) (nth t i).length c') ∧ A.cell? ⟨g', k, none⟩ = some (.bool (nth (nth t i) k)) ∧ A.frozen? ⟨g', k, none⟩ = false ∧ g' < b2 ∧ W.heap.size ≤ g' ∧
      ∀ b, TabAt W b2 v (setTab t i k b) vs (A.setCell ⟨g', k, none⟩ (.bool b)) := by
  obtain ⟨z, rfl, hT⟩ := h.tab
  obtain ⟨g, c, u, rfl, hg, hu, e0, hI, hrow⟩ := hT.at_ hi
  obtain ⟨g', c', rfl, hg', f0, f1, hset⟩ := hrow k hk
  have hgb := h.blks i _ g' hu rfl
  refine ⟨g, c, g', c', rfl, e0, f0, f1, hgb, (hI.lt g' rfl).1, fun b => ?_⟩
  obtain ⟨z', hz', hT'⟩ := hset b
  refine ⟨⟨z', hz', hT'⟩, by simpa [World.setCell] using h.size, h.le, ?_, h.blk, h.blks⟩
  exact (World.cell?_setCell_other _ _ _ _ (fun e => by cases e; omega)).trans h.cell

theorem IsInts.setBool {A : World} {v : Value} {L : List Int} {p : Addr} {b : Bool} (h : IsInts A v L) (hc : A.cell? p = some (.bool b)) (u' : Value) : IsInts (A.setCell p u') v L := by
  obtain ⟨a, c, hv, hle, h⟩ := h
  refine ⟨a, c, hv, hle, fun i hi => ?_⟩
  obtain ⟨b', o, ha, hb, hcell⟩ := h i hi
  refine ⟨b', o, ha, by simpa [World.setCell] using hb, (World.cell?_setCell_other _ _ _ _ fun e => ?_).trans hcell⟩
  rw [← e, hc] at hcell
  cases hcell

set_option maxRecDepth 100000 in
set_option maxHeartbeats 2000000 in
theorem ppossible {W : World} (x : Later W) (v0 v1 v2 : Value) (p : Prob) (hp : IsProb W v0 v1 v2 p) (hv : validP p = true) :
    Calls Try.prog 109 #[.agg #[v0, v1, v2]] x.w (EndsTab W (possT p)) := by
  refine (callsIn_wide (n := 0)).1 (callsIn_of_wp_marks (F := Fence.wide) (n := 0) Try.func109 rfl trivial ?_ rfl)
  refine (wpIn_wide (n := 0)).2 ?_
  simp only [Try.ntmps109, List.size_toArray, List.length_cons, List.length_nil, Nat.reduceAdd, Nat.reduceSub, Array.replicate_succ, Array.replicate_zero, List.push_toArray, List.append_toArray, List.nil_append, List.cons_append]
  go_upto_region 1 with (fail)
  obtain ⟨W1, x1, e1, hb1, s1, p0, p1, p2⟩ := enter3 x v0 v1 v2 26
  rw [e1]; clear e1
  have HP := Lib.hid (hp.below hb1)
  obtain ⟨ap, cp, rfl, lp, _⟩ := hp.panes.opened
  obtain ⟨ao, co, rfl, lo, _⟩ := hp.opts.opened
  obtain ⟨ar, cr, rfl, lr, _⟩ := hp.rules.opened
  clear hp
  have hmem := Lib.hid (fun f (hf : f ∈ agr p) => agr_mem hv hf)
  have hflen : (fullTab p false).length = p.opts.length := fullTo_len p false (Nat.le_refl _)
  replace hflen := Lib.hid hflen
  go_upto_region 3 with (first | (go_at_call 103; refine (ptable x1 _ _ _ p false HP.out hv).mono ?_; rintro e w' ⟨v, rfl, x2, rfl, vs, htab, _⟩; obtain ⟨at_, ct, rfl⟩ := htab.slice; rw [hflen.out] at htab ⊢) | (go_at_call 67; obtain ⟨W2, hW2⟩ : ∃ W2, x2.w.alloc (.cells #[.slice at_ p.opts.length ct] 48) = W2 := ⟨_, rfl⟩; rw [hW2]; refine (pagreeing (Later.now W2) _ _ _).mono ?_; rintro e w' ⟨bq, rfl, y, rfl, hq1, hq2⟩))
  have hb2 : Below W1.heap.size W1 W2 := hW2 ▸ x2.h.alloc x2.h.size _
  obtain ⟨b2, hB2⟩ : ∃ b2, x2.w.heap.size = b2 := ⟨_, rfl⟩
  have hWb : W1.heap.size ≤ b2 := hB2 ▸ x2.h.size
  have hT2 : TabAt W1 b2 (.slice at_ p.opts.length ct) (fullTab p false) vs W2 := by
    have hb22 : Below x2.w.heap.size x2.w W2 := hW2 ▸ below_alloc1 _ _
    refine ⟨⟨x2.up ⟨W2, hb22⟩, rfl, htab.later hb22⟩, by rw [← hW2, ← hB2]; simp, hWb, by rw [← hW2, ← hB2]; exact World.cell?_alloc_at _ _ _ 0 rfl, fun b hb => ?_, fun i q b hq hb => hB2 ▸ htab.block i q b hq hb⟩
    exact hB2 ▸ (htab.outer.lt b hb).2
  have hs2 : W2.heap.size = b2 + 1 := by rw [← hW2, ← hB2]; simp
  rw [hB2]
  clear htab hW2 hB2 x2
  have hTy := hT2.up y
  have hly : ∃ z : Later W1, y.w = z.w := ⟨⟨y.w, below_then hb2 y⟩, rfl⟩
  have hq3 : RdP W1 bq (.slice ap p.panes.length cp) (.slice ao p.opts.length co) (.slice ar p.rules.length cr) y.w := ⟨hly, hq2.lt, hq2.c0, hq2.c1, hq2.c2⟩
  change W2.heap.size ≤ bq at hq1
  have hbq : b2 < bq := by omega
  have hby := hTy.size
  obtain ⟨w, hw⟩ : ∃ w, y.w = w := ⟨_, rfl⟩
  rw [hw] at hTy hly hq3 hby ⊢
  clear hq2 hw y hs2 hT2 hb2 hq1
  have hshape := fun k i (hi : i < p.opts.length) => possT_row p k 0 [] hi
  refine (wpIn_wide (n := 0)).1 ?_
  refine' wpIn_rangeL (gf := 124) rfl (enters_of Try.func124 (by kernel_rfl) rfl) rfl (RdP W1 bq (.slice ap p.panes.length cp) (.slice ao p.opts.length co) (.slice ar p.rules.length cr)) (agr p) ?iter
    (fun k A => TabAt W1 b2 (.slice at_ p.opts.length ct) (marksTo (fullTab p false) (agr p) p.opts.length k) vs A)
    (fun _ _ => False) ?hI ?hIx ?hRd hTy hq3 _ ?assign ?body ?done ?stop
  case assign =>
    intro l v W K hK
    have hS := @Oper.semAt_some
    gi_wp2
    exact hK
  case iter => exact fun W2 hb2 hr2 => iterAgr bq _ _ _ p HP.out hv hr2
  case hI => exact fun k A B h he => h.eqb he hby
  case hIx => exact fun c A B h he => h
  case hRd => exact fun A B h he => h.eqb he (by omega) hq3.lt
  case stop => exact fun D c A hD h hdf => h.elim
  case done =>
    rintro D A hD hT hdf
    have hc := hT.cell
    go_wp2
    refine leaves_mark hdf (results_tmp rfl _ _ _) ?_
    have hT2 := hT.eqb (Eqb.putObj (B := w.heap.size) (l := D) (o := .deferred none) (Nat.le_trans (by omega) (Nat.le_of_lt (Array.getElem?_eq_some_iff.1 hdf).1)) hD) hby
    obtain ⟨z, hz, hO⟩ := hT2.tab
    obtain ⟨z', hz', hO'⟩ := hO.down hb1
    exact ⟨_, rfl, z', hz.trans hz', vs, hO'⟩
  case body =>
    rintro l2 k v A hk hT hR hvA
    generalize hQ : roundEnd w.heap.size _ _ _ A = Q
    replace hQ := Lib.hid hQ
    have hS := @Oper.semAt_some
    have hF : ∀ f, Fence.wide.fn f = True := fun _ => rfl
    have hD : Fence.wide.depth = none := rfl
    obtain ⟨m1, m2, m3, _⟩ := hmem.out _ (nth_mem hk)
    replace m2 := Lib.hid m2
    replace m3 := Lib.hid m3
    clear m1
    obtain ⟨av, cv, rfl, lv, _⟩ := hvA.opened
    gi_wp2
    gi_loopw [14] (fun i wr => ∃ m : Nat, m ≤ (nth (agr p) k).length ∧ i = .int .i64 m ∧ TabAt W1 b2 (.slice at_ p.opts.length ct) (markTo (marksTo (fullTab p false) (agr p) p.opts.length k) (nth (agr p) k) m) vs wr ∧ RdP W1 bq (.slice ap p.panes.length cp) (.slice ao p.opts.length co) (.slice ar p.rules.length cr) wr ∧ IsInts wr (.slice av (nth (agr p) k).length cv) (nth (agr p) k) ∧ Above w.heap.size A wr) (fun i _ => (nth (agr p) k).length - (intOf i).toNat)
    case atStart => exact ⟨0, Nat.zero_le _, rfl, hT, hR, hvA, Above.refl _ _⟩
    case round =>
      rename_i wr _
      clear hT hR hvA
      obtain ⟨m, hm, rfl, hT, hR, hvA, hab⟩ := hrel
      by_cases hlt : m < (nth (agr p) k).length
      · have hmo : m < p.opts.length := by have := m2.out; omega
        have hfm := m3.out m hlt
        have htl : (markTo (marksTo (fullTab p false) (agr p) p.opts.length k) (nth (agr p) k) m).length = p.opts.length := (markTo_shape _ _ m).1.trans (possT_len p k)
        have hrl := possT_row p k m (nth (agr p) k) hmo
        obtain ⟨g, c2, g', c3, hv2, e0, f0, f1, hgb, hgw, hset⟩ := hT.at_ (i := m) (k := (nth (nth (agr p) k) m).toNat) (by rw [htl]; exact hmo) (by rw [hrl]; omega)
        rw [htl] at hv2
        cases hv2
        have cb := hT.cell
        rw [hrl] at e0
        have hT' := Lib.hid (hset true)
        have hR' := Lib.hid (hR.setCell (i := (nth (nth (agr p) k) m).toNat) (show W1.heap.size ≤ g' from hgw) (by omega) (.bool true))
        have hv' := Lib.hid (hvA.setBool f0 (.bool true))
        have hab' := Lib.hid (hab.setCell (p := ⟨g', (nth (nth (agr p) k) m).toNat, none⟩) (by show g' < _; omega) (.bool true))
        obtain ⟨a', c', he, _, hI⟩ := hvA
        cases he
        obtain ⟨bf, of_, rfl, hbf, hcf⟩ := hI m hlt
        clear hI hset hT hR hab
        gi_wp2
        go_roundw
        case rel => exact ⟨m + 1, by omega, by go_num, hT'.out, hR'.out, hv'.out, hab'.out⟩
        case measure => simp [intOf]; omega
      · obtain rfl : m = (nth (agr p) k).length := by omega
        gi_wp2
        rw [← hQ.out]
        exact ⟨hab, hR, (congrArg (fun q => TabAt W1 b2 (.slice at_ p.opts.length ct) (markTo (marksTo (fullTab p false) (agr p) p.opts.length k) (nth (agr p) k) q) vs wr) m2.out).mp hT⟩

set_option maxRecDepth 100000 in
set_option maxHeartbeats 1000000 in
theorem pPossible {W : World} (x : Later W) (v0 v1 v2 : Value) (p : Prob) (hp : IsProb W v0 v1 v2 p) :
    Calls Try.prog 46 #[.agg #[v0, v1, v2]] x.w (EndsTabE W (possL p) (largeE p)) := by
  go_enter Try.func46, Try.ntmps46
  go_upto_region 1 with (fail)
  obtain ⟨W1, x1, e1, hb1, s1, p0, p1, p2⟩ := enter3 x v0 v1 v2 26
  rw [e1]; clear e1
  have HP := Lib.hid (hp.below hb1)
  obtain ⟨ap, cp, rfl, lp, _⟩ := hp.panes.opened
  obtain ⟨ao, co, rfl, lo, _⟩ := hp.opts.opened
  obtain ⟨ar, cr, rfl, lr, _⟩ := hp.rules.opened
  clear hp
  by_cases h0 : largeE p = 0
  · have hb0 : (askE p true != 0) = false := by rw [askE_true]; simp [h0]
    obtain ⟨hv, _⟩ := largeE_0.1 h0
    have hres : Hid (possL p = possT p ∧ largeE p = 0) := Lib.hid ⟨by simp [possL, h0], h0⟩
    clear h0
    go_wp2_with (first | (go_at_call 65; refine (pasked x1 _ _ _ p true HP.out).mono ?_; rintro e w' ⟨rfl, x1, rfl⟩) | (go_at_call 109; refine (ppossible x1 _ _ _ p HP.out hv).mono ?_; rintro e w' ⟨v, rfl, y, rfl, vs, hT⟩))
    go_ret2
    obtain ⟨z, hz, ht'⟩ := hT.down hb1
    refine ⟨_, by rw [hres.out.2]; rfl, z, hz, ?_⟩
    rw [hres.out.1]
    have hpl := possT_len p (agr p).length
    have hvl := valid_len hv
    have hp64 := valid_pane64 hv
    exact ht'.is (by show (possT p).length ≤ _; unfold possT; rw [hpl]; omega) (fun i hi => by
        replace hi : i < p.opts.length := by have h := hi; unfold possT at h; rwa [hpl] at h
        have e := possT_row p (agr p).length 0 [] hi
        have e2 : (nth (possT p) i).length = (nth p.opts i).length := e
        show (nth (possT p) i).length ≤ _
        rw [e2]; have := valid_opts hv hi; omega)
  · have hb0 : (askE p true != 0) = true := by rw [askE_true]; simp [h0]
    have hres : Hid (possL p = []) := Lib.hid (by simp [possL, h0])
    clear h0
    go_wp2_with (go_at_call 65; refine (pasked x1 _ _ _ p true HP.out).mono ?_; rintro e w' ⟨rfl, x1, rfl⟩)
    go_ret2
    obtain ⟨z, hz⟩ := x1.down hb1
    exact ⟨_, by rw [← askE_true]; rfl, z, hz, by rw [hres.out]; exact isBoolss_nil _⟩
end Go.Proofs.Ytmpkbolabdmkkaa
