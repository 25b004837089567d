/- CONTRACT of places' Forced. -/
import Derived.Test.YtmpkbolabdmkkaaZLawD
import Derived.Test.YtmpkbolabdmkkaaZPlZ
import Derived.Test.YtmpkbolabdmkkaaZPos
namespace Go.Proofs.Ytmpkbolabdmkkaa
open Go.RowKit

theorem idxB_spec {l : List Bool} (h : ∃ j, j < l.length ∧ nth l j = true) : ∃ k, k < l.length ∧ idxB l true = (k : Int) ∧ nth l k = true ∧ ∀ i, i < k → nth l i ≠ true := by
  obtain ⟨j, hj, hjt⟩ := h
  have : ∀ n, n ≤ l.length → (∃ k, k < n ∧ nth l k = true ∧ ∀ i, i < k → nth l i ≠ true) ∨ ∀ i, i < n → nth l i ≠ true := by
    intro n
    induction n with
    | zero => exact fun _ => .inr fun i h => absurd h (Nat.not_lt_zero _)
    | succ n ih =>
      intro hn
      rcases ih (by omega) with ⟨k, h1, h2, h3⟩ | h
      · exact .inl ⟨k, by omega, h2, h3⟩
      · by_cases hnt : nth l n = true
        · exact .inl ⟨n, by omega, hnt, h⟩
        · refine .inr fun i hi => ?_
          rcases Nat.lt_succ_iff_lt_or_eq.1 hi with h1 | rfl
          · exact h i h1
          · exact hnt
  rcases this l.length (Nat.le_refl _) with ⟨k, h1, h2, h3⟩ | h
  · exact ⟨k, h1, idxB_at h1 h2 h3, h2, h3⟩
  · exact absurd hjt (h j hj)
theorem drop_contains {l : List Bool} {n : Nat} : (l.drop n).contains true = true ↔ ∃ j, n ≤ j ∧ j < l.length ∧ nth l j = true := by
  rw [List.contains_iff_mem, List.mem_iff_getElem]
  constructor
  · rintro ⟨i, hi, h⟩
    rw [List.length_drop] at hi
    refine ⟨n + i, by omega, by omega, ?_⟩
    rw [nth_eq _ _ (by omega)]
    rwa [List.getElem_drop] at h
  · rintro ⟨j, h1, h2, h3⟩
    refine ⟨j - n, by rw [List.length_drop]; omega, ?_⟩
    rw [List.getElem_drop, ← h3, nth_eq _ _ h2]
    congr 1; omega

/-- the only possible option of a pane, as places tells it -/
def forcedK (p : Prob) (i : Nat) : Int := onlyB (nth (possT p) i) (idxB (nth (possT p) i) true)
theorem forcedK_eq {p : Prob} (hv : validP p = true) (h0 : firstE p = 0) {i : Nat} (hi : i < p.opts.length) :
    (∃ k, k < (nth p.opts i).length ∧ idxB (nth (possT p) i) true = (k : Int)) ∧ forcedK p i = forcedAt p (agr p).length i := by
  obtain ⟨_, hpos, hfL⟩ := firstE_0 h0
  have hrl := possT_rowlen p hi
  obtain ⟨_, m2, m3, _⟩ := agr_mem hv (nth_mem hpos)
  have ha := m3 i (by rw [m2]; exact hi)
  obtain ⟨a, haa⟩ := Int.eq_ofNat_of_zero_le ha.1
  have hal : a < (nth p.opts i).length := by omega
  have hat : nth (nth (possT p) i) a = true := (poss_iff hv hi hal).2 ⟨_, nth_mem hpos, haa⟩
  obtain ⟨k, hk1, hk2, hk3, hk4⟩ := idxB_spec (l := nth (possT p) i) ⟨a, by rw [hrl]; exact hal, hat⟩
  refine ⟨⟨k, by rw [← hrl]; exact hk1, hk2⟩, ?_⟩
  unfold forcedK onlyB
  rw [hk2, show ((k : Int) + 1).toNat = k + 1 by omega]
  unfold forcedAt
  rw [hfL, haa]
  by_cases hall : ∀ j, j < (agr p).length → nth (nth (agr p) j) i = (a : Int)
  · rw [if_pos hall]
    have hone : ∀ j, j < (nth p.opts i).length → nth (nth (possT p) i) j = true → j = a := by
      intro j hj hjt
      obtain ⟨f, hf, hfi⟩ := (poss_iff hv hi hj).1 hjt
      obtain ⟨m, hm, rfl⟩ := List.getElem_of_mem hf
      have := hall m hm
      rw [nth_eq _ _ hm, hfi] at this
      omega
    have hka := hone k (by rw [← hrl]; exact hk1) hk3
    rw [if_neg, hka]
    intro hc
    obtain ⟨j, h1, h2, h3⟩ := drop_contains.1 hc
    have := hone j (by rw [← hrl]; exact h2) h3
    omega
  · rw [if_neg hall, if_pos]
    obtain ⟨m, hm, hne⟩ : ∃ m, m < (agr p).length ∧ nth (nth (agr p) m) i ≠ (a : Int) := by
      refine Classical.byContradiction fun h => hall fun j hj => Classical.byContradiction fun h2 => h ⟨j, hj, h2⟩
    obtain ⟨_, n2, n3, _⟩ := agr_mem hv (nth_mem hm)
    have hb := n3 i (by rw [n2]; exact hi)
    obtain ⟨b, hbb⟩ := Int.eq_ofNat_of_zero_le hb.1
    have hbl : b < (nth p.opts i).length := by omega
    have hbt : nth (nth (possT p) i) b = true := (poss_iff hv hi hbl).2 ⟨_, nth_mem hm, hbb⟩
    have hab : a ≠ b := fun e => hne (by rw [hbb, e])
    have hka : k ≤ a := Nat.le_of_not_lt fun h => hk4 a h hat
    have hkb : k ≤ b := Nat.le_of_not_lt fun h => hk4 b h hbt
    apply drop_contains.2
    by_cases h : k = a
    · exact ⟨b, by omega, by rw [hrl]; exact hbl, hbt⟩
    · exact ⟨a, by omega, by rw [hrl]; exact hal, hat⟩

/-- the first k of them -/
def forcedTo (p : Prob) : Nat → List Int
  | 0 => []
  | k + 1 => forcedTo p k ++ [forcedK p k]
theorem forcedTo_len (p : Prob) : ∀ k, (forcedTo p k).length = k
  | 0 => rfl
  | k + 1 => by show (forcedTo p k ++ [forcedK p k]).length = _; rw [List.length_append, forcedTo_len p k]; rfl
theorem nth_forcedTo (p : Prob) : ∀ k i, i < k → nth (forcedTo p k) i = forcedK p i
  | 0, i, h => absurd h (Nat.not_lt_zero _)
  | k + 1, i, h => by
    show nth (forcedTo p k ++ [forcedK p k]) i = _
    rcases Nat.lt_succ_iff_lt_or_eq.1 h with h1 | rfl
    · rw [nth_append_left (by rw [forcedTo_len]; exact h1)]; exact nth_forcedTo p k i h1
    · have := nth_snoc (forcedTo p i) (forcedK p i); rwa [forcedTo_len] at this
theorem forcedTo_all {p : Prob} (hv : validP p = true) (h0 : firstE p = 0) : forcedTo p p.opts.length = forcedR p := by
  unfold forcedR
  rw [if_pos h0]
  refine ext_nth (by rw [forcedTo_len, forcedL_len]) fun i hi => ?_
  rw [forcedTo_len] at hi
  rw [nth_forcedTo p _ _ hi, (forcedK_eq hv h0 hi).2, nth_forcedL hi, if_neg (Nat.not_lt_zero _)]

/-- a table of bools whose rows' slices have room for what they hold -/
def IsBoolssC (w : World) (v : Value) (t : List (List Bool)) : Prop :=
  ∃ a c, v = .slice a t.length c ∧ t.length ≤ 5864062014805 ∧ ∀ i, i < t.length → ∃ b o, a = some ⟨b, o, none⟩ ∧ b < w.heap.size ∧ ∃ u, w.cell? ⟨b, o + i, none⟩ = some u ∧ IsBools w u (nth t i) ∧ ∃ au cu, u = .slice au (nth t i).length cu ∧ (nth t i).length ≤ cu
theorem IsBoolssC.is {w : World} {v : Value} {t : List (List Bool)} (h : IsBoolssC w v t) : IsBoolss w v t :=
  let ⟨a, c, h1, h2, h3⟩ := h; ⟨a, c, h1, h2, fun i hi => let ⟨b, o, q1, q2, u, q3, q4, _⟩ := h3 i hi; ⟨b, o, q1, q2, u, q3, q4⟩⟩
theorem IsBoolssC.below {w w' : World} {v : Value} {t : List (List Bool)} (h : IsBoolssC w v t) (hb : Below w.heap.size w w') : IsBoolssC w' v t :=
  let ⟨a, c, h1, h2, h3⟩ := h; ⟨a, c, h1, h2, fun i hi => let ⟨b, o, q1, q2, u, q3, q4, q5⟩ := h3 i hi; ⟨b, o, q1, Nat.lt_of_lt_of_le q2 hb.size, u, (hb.cell (p := ⟨b, o + i, none⟩) q2).trans q3, q4.below hb, q5⟩⟩
theorem IsBoolssC.opened {W : World} {v : Value} {t : List (List Bool)} (h : IsBoolssC W v t) : ∃ a c, v = .slice a t.length c ∧ t.length ≤ 5864062014805 ∧ Hid (∀ i, i < t.length → ∃ b o, a = some ⟨b, o, none⟩ ∧ (∀ x : Later W, b < x.w.heap.size) ∧
    ∃ au cu, (∀ x : Later W, x.w.cell? ⟨b, o + i, none⟩ = some (.slice au (nth t i).length cu)) ∧ IsBools W (.slice au (nth t i).length cu) (nth t i) ∧ (nth t i).length ≤ cu) := by
  obtain ⟨a, c, h1, h2, h3⟩ := h
  refine ⟨a, c, h1, h2, fun i hi => ?_⟩
  obtain ⟨b, o, q1, q2, u, q3, q4, au, cu, rfl, q5⟩ := h3 i hi
  exact ⟨b, o, q1, Later.size q2, au, cu, Later.cell q2 q3, q4, q5⟩
theorem isBoolssC_nil (w : World) : IsBoolssC w (.slice none 0 0) [] := ⟨none, 0, rfl, by simp, fun _ h => absurd h (Nat.not_lt_zero _)⟩
theorem OwnTab.isC {W : World} {y : Later W} {v : Value} {t : List (List Bool)} {vs : List Value} (h : OwnTab y v t vs) (hn : t.length ≤ 5864062014805) (hr : ∀ i, i < t.length → (nth t i).length ≤ 140737488355328) : IsBoolssC y.w v t := by
  obtain ⟨a, c, hv, _, hc⟩ := owns_cell h.outer
  refine ⟨a, c, hv, hn, fun i hi => ?_⟩
  obtain ⟨b, ha, _, hb, hcell⟩ := hc i hi
  obtain ⟨u, hu, hI⟩ := h.rows i hi
  refine ⟨b, 0, ha, hb, u, hcell.trans hu, isBools_of_owns hI (hr i hi), ?_⟩
  rcases hI.2 with ⟨rfl, h0⟩ | ⟨g, cap, cur, rfl, _, _, hle, _⟩
  · exact ⟨none, 0, by rw [h0], by omega⟩
  · exact ⟨_, cap, rfl, hle⟩
def EndsTabC (W : World) (t : List (List Bool)) (n : Int) (e : Ending) (w' : World) : Prop := ∃ v, e = .returned (.tuple #[v, .int .i64 n]) ∧ ∃ y : Later W, w' = y.w ∧ IsBoolssC y.w v t

set_option maxRecDepth 100000 in
set_option maxHeartbeats 1000000 in
theorem pPossibleC {W : World} (x : Later W) (v0 v1 v2 : Value) (p : Prob) (hp : IsProb W v0 v1 v2 p) :
    Calls Try.prog 46 #[.agg #[v0, v1, v2]] x.w (EndsTabC W (possL p) (largeE p)) := by
  go_enter Try.func46, Try.ntmps46
  go_upto_region 1 with (fail)
  obtain ⟨W1, x1, e1, hb1, s1, p0, p1, p2⟩ := enter3 x v0 v1 v2 26
  rw [e1]; clear e1
  have HP := Lib.hid (hp.below hb1)
  obtain ⟨ap, cp, rfl, lp, _⟩ := hp.panes.opened
  obtain ⟨ao, co, rfl, lo, _⟩ := hp.opts.opened
  obtain ⟨ar, cr, rfl, lr, _⟩ := hp.rules.opened
  clear hp
  by_cases h0 : largeE p = 0
  · have hb0 : (askE p true != 0) = false := by rw [askE_true]; simp [h0]
    obtain ⟨hv, _⟩ := largeE_0.1 h0
    have hres : Hid (possL p = possT p ∧ largeE p = 0) := Lib.hid ⟨by simp [possL, h0], h0⟩
    clear h0
    go_wp2_with (first | (go_at_call 65; refine (pasked x1 _ _ _ p true HP.out).mono ?_; rintro e w' ⟨rfl, x1, rfl⟩) | (go_at_call 109; refine (ppossible x1 _ _ _ p HP.out hv).mono ?_; rintro e w' ⟨v, rfl, y, rfl, vs, hT⟩))
    go_ret2
    obtain ⟨z, hz, ht'⟩ := hT.down hb1
    refine ⟨_, by rw [hres.out.2]; rfl, z, hz, ?_⟩
    rw [hres.out.1]
    have hpl := possT_len p (agr p).length
    have hvl := valid_len hv
    have hp64 := valid_pane64 hv
    exact ht'.isC (by show (possT p).length ≤ _; unfold possT; rw [hpl]; omega) (fun i hi => by
        replace hi : i < p.opts.length := by have h := hi; unfold possT at h; rwa [hpl] at h
        have e := possT_row p (agr p).length 0 [] hi
        have e2 : (nth (possT p) i).length = (nth p.opts i).length := e
        show (nth (possT p) i).length ≤ _
        rw [e2]; have := valid_opts hv hi; omega)
  · have hb0 : (askE p true != 0) = true := by rw [askE_true]; simp [h0]
    have hres : Hid (possL p = []) := Lib.hid (by simp [possL, h0])
    clear h0
    go_wp2_with (go_at_call 65; refine (pasked x1 _ _ _ p true HP.out).mono ?_; rintro e w' ⟨rfl, x1, rfl⟩)
    go_ret2
    obtain ⟨z, hz⟩ := x1.down hb1
    exact ⟨_, by rw [← askE_true]; rfl, z, hz, by rw [hres.out]; exact isBoolssC_nil _⟩
/-- a list of bools, cut -/
theorem IsBools.cutL {w : World} {b o c m : Nat} {l : List Bool} (h : IsBools w (.slice (some ⟨b, o, none⟩) l.length c) l) {A : Option Addr} {c' : Nat} (hA : m < l.length → A = some ⟨b, o + m, none⟩) : IsBools w (.slice A (l.length - m) c') (l.drop m) := by
  obtain ⟨a', c2, hv, hle, hI⟩ := h
  cases hv
  refine ⟨A, c', by rw [List.length_drop], by rw [List.length_drop]; omega, fun i hi => ?_⟩
  rw [List.length_drop] at hi
  obtain ⟨b', o', he, hb, hc⟩ := hI (m + i) (by omega)
  cases he
  refine ⟨b, o + m, hA (by omega), hb, ?_⟩
  rw [nth_eq _ _ (by rw [List.length_drop]; omega), List.getElem_drop, ← nth_eq _ _ (by omega), Nat.add_assoc]
  exact hc

set_option maxRecDepth 100000 in
set_option maxHeartbeats 1000000 in
theorem pForced {W : World} (x : Later W) (v0 v1 v2 : Value) (p : Prob) (hp : IsProb W v0 v1 v2 p) :
    Calls Try.prog 50 #[.agg #[v0, v1, v2]] x.w (EndsIntsE W (forcedR p) (firstE p)) := by
  go_enter Try.func50, Try.ntmps50
  go_upto_region 1 with (fail)
  obtain ⟨W1, x1, e1, hb1, s1, p0, p1, p2⟩ := enter3 x v0 v1 v2 26
  rw [e1]; clear e1
  have HP := Lib.hid (hp.below hb1)
  obtain ⟨ap, cp, rfl, lp, _⟩ := hp.panes.opened
  obtain ⟨ao, co, rfl, lo, _⟩ := hp.opts.opened
  obtain ⟨ar, cr, rfl, lr, _⟩ := hp.rules.opened
  clear hp
  have hpo := Lib.hid (fun y : Later W1 => pPossibleC y _ _ _ p HP.out)
  have hfi := Lib.hid (fun y : Later W1 => pFirst y _ _ _ p HP.out)
  by_cases h0 : largeE p = 0
  case neg =>
    have hres : Hid (firstE p = largeE p ∧ forcedR p = []) := Lib.hid (by have h1 : firstE p = largeE p := by simp [firstE, h0]
                                                                          exact ⟨h1, by unfold forcedR; rw [if_neg (by rw [h1]; exact h0)]⟩)
    have hb0 : (largeE p != 0) = true := by simp [h0]
    clear h0
    go_wp2_with (go_at_call 46; refine (hpo.out x1).mono ?_; rintro e w' ⟨v, rfl, x1, rfl, hT⟩; obtain ⟨at_, ct, rfl, _, _⟩ := hT)
    go_ret2
    obtain ⟨z, hz⟩ := x1.down hb1
    exact ⟨_, by rw [hres.out.1]; rfl, z, hz, by rw [hres.out.2]; exact isInts_nil _⟩
  have hb0 : (largeE p != 0) = false := by simp [h0]
  obtain ⟨hv, _⟩ := largeE_0.1 h0
  have hps : possL p = possT p := by simp [possL, h0]
  rw [hps] at hpo
  replace hps := Lib.hid hps
  by_cases h1 : firstE p = 0
  case neg =>
    have hres : Hid (forcedR p = []) := Lib.hid (by unfold forcedR; rw [if_neg h1])
    have hb1' : (firstE p != 0) = true := by simp [h1]
    clear h0 h1
    go_wp2_with (first | (go_at_call 46; refine (hpo.out x1).mono ?_; rintro e w' ⟨v, rfl, x1, rfl, hT⟩; obtain ⟨at_, ct, rfl, _, _⟩ := hT) | (go_at_call 30; refine (hfi.out x1).mono ?_; rintro e w' ⟨v, rfl, x1, rfl, hI⟩; obtain ⟨af, cf, rfl, _, _⟩ := hI))
    go_ret2
    obtain ⟨z, hz⟩ := x1.down hb1
    exact ⟨_, rfl, z, hz, by rw [hres.out]; exact isInts_nil _⟩
  have hb1' : (firstE p != 0) = false := by simp [h1]
  have hK := Lib.hid (fun i (hi : i < p.opts.length) => (forcedK_eq hv h1 hi).1)
  have hres := Lib.hid (And.intro (forcedTo_all hv h1) h1)
  have hpl := Lib.hid (possT_length p)
  have hrl := Lib.hid (fun i => @possT_rowlen p i)
  clear h0 h1
  go_wp2_with (first | (go_at_call 46; refine (hpo.out x1).mono ?_; rintro e w' ⟨v, rfl, x1, rfl, hT⟩; have HT := Lib.hid hT; obtain ⟨at_, ct, rfl, hx8, hx9⟩ := hT; clear hx8 hx9; rw [hpl.out] at HT ⊢) | (go_at_call 30; refine (pFirst (Later.now x1.w) _ _ _ p (HP.out.below x1.h)).mono ?_; rintro e w' ⟨v, rfl, x2, rfl, hI⟩; obtain ⟨af, cf, rfl, hx8, hx9⟩ := hI; clear hx8 hx9))
  obtain ⟨W3, hW3, hb3⟩ : ∃ W3, x2.w = W3 ∧ Below W1.heap.size W1 W3 := ⟨_, rfl, below_then x1.h x2⟩
  have HT3 := HT.out.below x2.h
  rw [hW3] at HT3 ⊢
  clear hW3 x2 HT
  obtain ⟨at', ct', hq, _, hrows⟩ := HT3.opened
  rw [hpl.out] at hq
  cases hq
  have h64 := valid_pane64 hv
  have hl2 := valid_len hv
  have ho64 : p.opts.length ≤ 64 := by omega
  have hlE := hres.out.2
  have hVo := Lib.hid (fun i hi => @valid_opts p hv i hi)
  clear h64 hl2
  replace hlE := Lib.hid hlE
  go_loopw [8, 30] (fun v i wr => ∃ k : Nat, k ≤ p.opts.length ∧ i = .int .i64 k ∧ ∃ y : Later W3, wr = y.w ∧ y.w.ownsRow W3.heap.size 3 1 v (forcedTo p k).length ((forcedTo p k).map (Value.int .i64))) (fun _ i _ => p.opts.length - (intOf i).toNat)
  case atStart => exact ⟨0, Nat.zero_le _, rfl, Later.now W3, rfl, World.ownsRow_nil _ _ _ _⟩
  case round =>
    obtain ⟨k, hk, rfl, x, rfl, hown⟩ := hrel
    replace hown := Lib.hid hown
    have hf64 : (forcedTo p k).length ≤ 64 := by rw [forcedTo_len]; omega
    by_cases hlt : k < p.opts.length
    · obtain ⟨bo, oo, rfl, hbo, au, cu, c0, hu, hcu⟩ := hrows.out k (by rw [hpl.out]; exact hlt)
      obtain ⟨m, hm1, hm2⟩ := hK.out k hlt
      have hrlk := hrl.out k hlt
      obtain ⟨l, hl⟩ : ∃ l, l = nth (possT p) k := ⟨_, rfl⟩
      obtain ⟨n, hn⟩ : ∃ n, n = (nth p.opts k).length := ⟨_, rfl⟩
      have hstep : Hid (forcedTo p (k + 1) = forcedTo p k ++ [if (l.drop (m + 1)).contains true then -1 else (m : Int)]) := Lib.hid (by
        show forcedTo p k ++ [forcedK p k] = _
        unfold forcedK onlyB
        rw [hm2, ← hl, show ((m : Int) + 1).toNat = m + 1 by omega])
      rw [← hl] at hu hrlk hm2 hcu c0
      rw [← hn] at hrlk hm1
      have hn256 : n ≤ 256 := hn ▸ (hVo.out k hlt).2
      clear hl hn
      have hC1 := Lib.hid (fun y : Later x.w => pindexB y _ l true (hu.below x.h))
      obtain ⟨_, _, hqq, lu, hcells⟩ := hu.opened
      cases hqq
      obtain ⟨bu, ou, rfl, _, _⟩ := hcells.out 0 (by omega)
      have hC2 := Lib.hid (fun (y : Later x.w) A c' hA => phasBl y (.slice A (l.length - (m + 1)) c') (l.drop (m + 1)) true ((hu.below x.h).cutL (A := A) (c' := c') hA))
      rw [hm2] at hC1
      rw [hrlk] at hC1 hC2 c0 hcu
      clear hu hcells lu hm2
      replace hrlk := Lib.hid hrlk
      obtain ⟨q, hq⟩ : ∃ q, q = (l.drop (m + 1)).contains true := ⟨_, rfl⟩
      rw [← hq] at hC2 hstep
      clear hq
      cases q
      all_goals
        go_wp2_with (first | (go_at_call 111; refine (hC1.out (Later.now x.w)).mono ?_; rintro e w' ⟨rfl, y, rfl⟩) | (go_at_call 112; refine (hC2.out y _ _ (by intro h; have := hrlk.out; first | rfl | (exfalso; omega))).mono ?_; rintro e w' ⟨rfl, z, rfl⟩; have hown2 := Lib.hid (owns_later hown.out z.h); obtain ⟨z1, hz1⟩ : ∃ z1 : Later W3, z.w = z1.w := ⟨x.up z, rfl⟩; rw [hz1] at hown2 ⊢; clear hz1 z) | (at_builtin; refine wpList_app1 z1 22 3 _ 8 Try.info3 rfl Try.underlying22 rfl _ _ rfl _ _ _ (by rfl) hown2.out _ (by rfl) (by rfl) (by omega) (by omega) ?_; intro v' x hown' hgr))
        all_goals
          go_roundw
          case rel => exact ⟨k + 1, by omega, by go_num, x, rfl, owns_step hown' (by rw [hstep.out]; rfl)⟩
          case measure => simp [intOf]; omega
    · obtain rfl : k = p.opts.length := by omega
      go_wp2
      go_ret2
      obtain ⟨z, hz⟩ := x.down (hb1.trans (hb3.mono hb1.size))
      refine ⟨_, by rw [hlE.out]; rfl, z, hz, ?_⟩
      rw [← hres.out.1, ← hz]
      exact isInts_of_owns hown.out (by omega)
end Go.Proofs.Ytmpkbolabdmkkaa
