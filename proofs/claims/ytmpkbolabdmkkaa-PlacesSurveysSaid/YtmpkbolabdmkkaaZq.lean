/- CONTRACTS of the reference's twice and fixed. -/
import Derived.Test.YtmpkbolabdmkkaaZSuA
import Derived.Test.YtmpkbolabdmkkaaZn
import Derived.Test.YtmpkbolabdmkkaaZd
import Derived.Test.YtmpkbolabdmkkaaZk
import Derived.Test.YtmpkbolabdmkkaaZSuD
namespace Go.Proofs.Ytmpkbolabdmkkaa
open Go.RowKit

/-- the first pane with the piece of the last one; -1: none -/
def twN (p : Prob) (c : List Int) : Int := match twinO p c with | some i => (i : Nat) | none => -1
theorem twN_yes {p : Prob} {c : List Int} {k : Nat} (hk : k < c.length - 1) (h : twinTo p c k = true) (hno : ∀ i, i < k → twinTo p c i = false) : twN p c = k := by
  unfold twN twinO; rw [find_range hk h hno]
theorem twN_no {p : Prob} {c : List Int} (hno : ∀ i, i < c.length - 1 → twinTo p c i = false) : twN p c = -1 := by
  unfold twN twinO; rw [find_rangeN hno]

set_option maxRecDepth 100000 in
set_option maxHeartbeats 1000000 in
theorem rtwice {W : World} (x : Later W) (v0 v1 v2 vf : Value) (p : Prob) (f : List Int) (hp : IsProb W v0 v1 v2 p) (hf : IsInts W vf f) (hlen : f.length ≤ p.opts.length) (hfill : ∀ i, i < f.length → 0 ≤ nth f i ∧ nth f i < (nth p.opts i).length) :
    Calls Try.prog 151 #[.agg #[v0, v1, v2], vf] x.w (Ends W (.int .i64 (twN p f))) := by
  replace hfill := Lib.hid hfill
  have hyes := Lib.hid (fun k => @twN_yes p f k)
  have hno' := Lib.hid (@twN_no p f)
  go_enter Try.func151, Try.ntmps151
  go_upto_region 1 with (fail)
  obtain ⟨W1, x1, e1, hb1, s1, p0, p1, p2⟩ := enter3 x v0 v1 v2 26
  rw [e1]; clear e1
  obtain ⟨ao, co, rfl, lo, hopts⟩ := (hp.opts.below hb1).opened
  obtain ⟨af, cf, rfl, lf, hfs⟩ := (hf.below hb1).opened
  clear hp hf
  go_wp2
  go_loopw [6] (fun i wr => ∃ k : Nat, k ≤ f.length - 1 ∧ i = .int .i64 k ∧ (∃ y : Later W1, wr = y.w) ∧ (∀ i : Nat, i < k → twinTo p f i = false)) (fun i _ => f.length - (intOf i).toNat)
  case atStart => exact ⟨0, Nat.zero_le _, rfl, ⟨x1, rfl⟩, fun i hi => absurd hi (Nat.not_lt_zero _)⟩
  case round =>
    obtain ⟨k, hk, rfl, ⟨x, rfl⟩, hno⟩ := hrel
    replace hno := Lib.hid hno
    by_cases hlt : k < f.length - 1
    · have hlt' : (k : Int) < (f.length : Int) - 1 := by omega
      have hko : k < p.opts.length := by omega
      have hfk := hfill.out k (by omega)
      have hfl := hfill.out (f.length - 1) (by omega)
      obtain ⟨bf, of, rfl, hbf, c0⟩ := hfs.out k (by omega)
      obtain ⟨_, _, he, _, c1⟩ := hfs.out (f.length - 1) (by omega)
      cases he
      obtain ⟨bo, oo, rfl, hbo, uo, co0, hO⟩ := hopts.out k hko
      obtain ⟨_, _, he, _, ul, cl0, hOl⟩ := hopts.out (f.length - 1) (by omega)
      cases he
      obtain ⟨av, cv, rfl, lv, hV⟩ := hO.opened
      obtain ⟨al, cl, rfl, ll, hL⟩ := hOl.opened
      obtain ⟨bv, ov, rfl, hbv, d0, _⟩ := hV.out (nth f k).toNat (by omega)
      obtain ⟨bl, ol, rfl, hbl, d1, _⟩ := hL.out (nth f (f.length - 1)).toNat (by omega)
      have e0 : (nth (nth p.opts k) (nth f k).toNat).piece = pieceAt p f k := rfl
      have e1 : (nth (nth p.opts (f.length - 1)) (nth f (f.length - 1)).toNat).piece = pieceAt p f (f.length - 1) := rfl
      have hT : Hid (twinTo p f k = (decide (0 < pieceAt p f (f.length - 1)) && (pieceAt p f (f.length - 1) == pieceAt p f k))) := Lib.hid (by
        unfold twinTo
        rw [Bool.eq_iff_iff, decide_eq_true_iff, Bool.and_eq_true, decide_eq_true_iff, beq_iff_eq]
        constructor
        · rintro ⟨a, b⟩; exact ⟨by omega, b.symm⟩
        · rintro ⟨a, b⟩; exact ⟨by omega, b.symm⟩)
      rw [e0] at d0
      rw [e1] at d1
      have hsub : ((f.length : Int) - 1).toNat = f.length - 1 := by omega
      obtain ⟨n1, hn1⟩ : ∃ n, n = f.length - 1 := ⟨_, rfl⟩
      rw [← hn1] at hsub c1 cl0 d1 hT hfl
      obtain ⟨A, hA⟩ : ∃ A, pieceAt p f k = A := ⟨_, rfl⟩
      obtain ⟨B, hB⟩ : ∃ B, pieceAt p f n1 = B := ⟨_, rfl⟩
      rw [hA] at d0 hT
      rw [hB] at d1 hT
      have hyk := Lib.hid (hyes.out k (by omega))
      replace hA := Lib.hid hA
      replace hB := Lib.hid hB
      have hn2 : (f.length : Int) - 1 = (n1 : Int) := by omega
      replace hn1 := Lib.hid hn1
      clear hV hL hO hOl e0 e1
      cases h1 : decide (0 < B)
      · rw [h1, Bool.false_and] at hT
        go_wp2
        refine wp_region_later x (by kernel_rfl) (by kernel_rfl) ?_
        repeat (go_big_quiet_step (fail))
        refine wpQuiet_nil ?_
        rintro _ ⟨x, rfl⟩
        go_wp2
        refine wp_region_later x (by kernel_rfl) (by kernel_rfl) ?_
        repeat (go_big_quiet_step (fail))
        refine wpQuiet_nil ?_
        rintro _ ⟨x, rfl⟩
        go_wp2
        go_roundw
        case rel => exact ⟨k + 1, by omega, by go_num, ⟨x, rfl⟩, all_step hno.out hT.out⟩
        case measure => simp [intOf]; omega
      · rw [h1, Bool.true_and] at hT
        cases h2 : (B == A)
        · rw [h2] at hT
          go_wp2
          refine wp_region_later x (by kernel_rfl) (by kernel_rfl) ?_
          repeat (go_big_quiet_step (fail))
          refine wpQuiet_nil ?_
          rintro _ ⟨x, rfl⟩
          go_wp2
          refine wp_region_later x (by kernel_rfl) (by kernel_rfl) ?_
          repeat (go_big_quiet_step (fail))
          refine wpQuiet_nil ?_
          rintro _ ⟨x, rfl⟩
          go_wp2
          go_roundw
          case rel => exact ⟨k + 1, by omega, by go_num, ⟨x, rfl⟩, all_step hno.out hT.out⟩
          case measure => simp [intOf]; omega
        · rw [h2] at hT
          have hv := hyk.out hT.out hno.out
          replace hv := Lib.hid hv
          go_wp2
          refine wp_region_later x (by kernel_rfl) (by kernel_rfl) ?_
          repeat (go_big_quiet_step (fail))
          refine wpQuiet_nil ?_
          rintro _ ⟨x, rfl⟩
          go_wp2
          refine wp_region_later x (by kernel_rfl) (by kernel_rfl) ?_
          repeat (go_big_quiet_step (fail))
          refine wpQuiet_nil ?_
          rintro _ ⟨x, rfl⟩
          go_wp2
          go_ret; exact ⟨ret_int hv.out.symm, x.down hb1⟩
    · obtain rfl : k = f.length - 1 := by omega
      have hv := hno'.out hno.out
      replace hv := Lib.hid hv
      have hlt' : ¬ ((f.length - 1 : Nat) : Int) < (f.length : Int) - 1 := by omega
      go_wp2
      go_ret; exact ⟨ret_int hv.out.symm, x.down hb1⟩

/-- row i of a table, its first k entries those of the option x -/
def fixR (t : List (List Bool)) (i : Nat) (x : Int) : Nat → List (List Bool)
  | 0 => t
  | k + 1 => setTab (fixR t i x k) i k ((k : Int) == x)
def fixT (p : Prob) (c : List Int) : Nat → List (List Bool)
  | 0 => fullTab p true
  | i + 1 => fixR (fixT p c i) i (nth c i) (nth p.opts i).length
theorem shp_setTab {p : Prob} {t : List (List Bool)} (h : Shp p t) {i : Nat} (k : Nat) (b : Bool) : Shp p (setTab t i k b) := by
  refine ⟨by rw [setTab_len]; exact h.len, fun j hj => ?_⟩
  by_cases e : i = j
  · subst e; rw [nth_setTab_same (by rw [h.len]; exact hj), List.length_set]; exact h.row _ hj
  · rw [nth_setTab_other (fun h => e h.symm)]; exact h.row j hj
theorem fixR_shp {p : Prob} {t : List (List Bool)} (h : Shp p t) {i : Nat} (x : Int) : ∀ k, Shp p (fixR t i x k)
  | 0 => h
  | k + 1 => shp_setTab (fixR_shp h x k) k _
theorem fixR_at {p : Prob} {t : List (List Bool)} (h : Shp p t) {i : Nat} (hi : i < p.opts.length) (x : Int) : ∀ k, k ≤ (nth p.opts i).length → ∀ j m, nth (nth (fixR t i x k) j) m = if j = i ∧ m < k then ((m : Int) == x) else nth (nth t j) m
  | 0, _, j, m => by rw [if_neg (by omega)]; rfl
  | k + 1, hk, j, m => by
    have hs := fixR_shp h (i := i) x k
    have ih := fixR_at h hi x k (by omega) j m
    rw [fixR]
    by_cases e : j = i
    · subst e
      rw [nth_setTab_same (by rw [hs.len]; exact hi), nth_set_at (by rw [hs.row _ hi]; omega)]
      by_cases e2 : k = m
      · subst e2; rw [if_pos rfl, if_pos ⟨rfl, by omega⟩]
      · rw [if_neg e2, ih]
        by_cases e3 : m < k
        · rw [if_pos ⟨rfl, e3⟩, if_pos ⟨rfl, by omega⟩]
        · rw [if_neg (fun h => e3 h.2), if_neg (fun h => by omega)]
    · rw [nth_setTab_other e, ih, if_neg (fun h => e h.1), if_neg (fun h => e h.1)]
theorem fixT_shp (p : Prob) (c : List Int) : ∀ i, i ≤ p.opts.length → Shp p (fixT p c i)
  | 0, _ => shp_full p true
  | i + 1, h => fixR_shp (fixT_shp p c i (by omega)) _ _
theorem fixT_at (p : Prob) (c : List Int) : ∀ i, i ≤ p.opts.length → ∀ j m, j < p.opts.length → m < (nth p.opts j).length → nth (nth (fixT p c i) j) m = (decide (i ≤ j) || nth c j == (m : Int))
  | 0, _, j, m, hj, hm => by
    rw [fixT]
    unfold fullTab
    rw [nth_fullTo p true (Nat.le_refl _) hj, nth_eq _ _ (by rw [List.length_replicate]; exact hm), List.getElem_replicate, decide_eq_true (Nat.zero_le _)]; rfl
  | i + 1, h, j, m, hj, hm => by
    rw [fixT, fixR_at (fixT_shp p c i (by omega)) (by omega) _ _ (Nat.le_refl _)]
    by_cases e : j = i
    · subst e
      rw [if_pos ⟨rfl, hm⟩, decide_eq_false (by omega), Bool.false_or, Bool.eq_iff_iff, beq_iff_eq, beq_iff_eq]
      exact eq_comm
    · rw [if_neg (fun h => e h.1), fixT_at p c i (by omega) j m hj hm]
      by_cases e2 : i ≤ j
      · rw [decide_eq_true e2, decide_eq_true (show i + 1 ≤ j by omega)]
      · rw [decide_eq_false e2, decide_eq_false (show ¬ i + 1 ≤ j by omega)]
/-- what the first panes leave, as a table -/
structure Fix (p : Prob) (c : List Int) (t : List (List Bool)) : Prop where
  shp : Shp p t
  at_ : ∀ i k, i < p.opts.length → k < (nth p.opts i).length → nth (nth t i) k = leftB c i k
theorem fixT_fix {p : Prob} {c : List Int} (hc : c.length ≤ p.opts.length) : Fix p c (fixT p c c.length) := ⟨fixT_shp p c _ hc, fun i k hi hk => fixT_at p c _ hc i k hi hk⟩
def EndsFix (W : World) (p : Prob) (c : List Int) (e : Ending) (w' : World) : Prop := ∃ v t, e = .returned v ∧ Fix p c t ∧ ∃ y : Later W, w' = y.w ∧ IsBoolss y.w v t

set_option maxRecDepth 100000 in
set_option maxHeartbeats 2000000 in
theorem rfixed {W : World} (x : Later W) (v0 v1 v2 vf : Value) (p : Prob) (c : List Int) (hp : IsProb W v0 v1 v2 p) (hf : IsInts W vf c) (hval : validP p = true) (hlen : c.length ≤ p.opts.length) :
    Calls Try.prog 168 #[.agg #[v0, v1, v2], vf] x.w (EndsFix W p c) := by
  have hfix := Lib.hid (fixT_fix (p := p) (c := c) hlen)
  go_enter Try.func168, Try.ntmps168
  go_upto_region 1 with (fail)
  obtain ⟨W1, x1, e1, hb1, s1, p0, p1, p2⟩ := enter3 x v0 v1 v2 26
  rw [e1]; clear e1
  have HP := Lib.hid (hp.below hb1)
  obtain ⟨ap, cp, rfl, lp, _⟩ := hp.panes.opened
  obtain ⟨ao, co, rfl, lo, _⟩ := hp.opts.opened
  obtain ⟨ar, cr, rfl, lr, _⟩ := hp.rules.opened
  obtain ⟨af, cf, rfl, lf, hfs⟩ := (hf.below hb1).opened
  clear hp hf
  have hflen := Lib.hid (show (fullTab p true).length = p.opts.length from fullTo_len p true (Nat.le_refl _))
  have hn : p.opts.length ≤ 65536 := by have := valid_len hval; have := valid_pane64 hval; omega
  go_upto_region 2 with (go_at_call 107; refine (rnone x1 _ _ _ p true HP.out hn).mono ?_; rintro e w' ⟨v, rfl, x2, rfl, vs, htab⟩; obtain ⟨at_, ct, rfl⟩ := htab.slice; rw [hflen.out] at htab ⊢)
  have hopt : Hid (∀ i, i < p.opts.length → (nth p.opts i).length ≤ 65536) := Lib.hid (fun i hi => by have := valid_opts hval hi; omega)
  have hfin : Hid (∀ y : Later W1, OwnTab y (.slice at_ p.opts.length ct) (fixT p c c.length) vs → EndsFix W p c (.returned (.slice at_ p.opts.length ct)) y.w) := Lib.hid (fun y hO => by
    obtain ⟨z', hz', hO'⟩ := hO.down hb1
    have hs := hfix.out.shp
    exact ⟨_, _, rfl, hfix.out, z', hz', hO'.is (by have := hs.len; omega) (fun i hi => by have := hs.row i (by rw [← hs.len]; exact hi); have := hopt.out i (by rw [← hs.len]; exact hi); omega)⟩)
  replace htab := Lib.hid htab
  clear hval HP hfix
  go_wp2
  go_loopw [6] (fun iv wr => ∃ i : Nat, i ≤ c.length ∧ iv = .int .i64 i ∧ ∃ y : Later W1, wr = y.w ∧ OwnTab y (.slice at_ p.opts.length ct) (fixT p c i) vs) (fun iv _ => c.length - (intOf iv).toNat)
  case atStart => exact ⟨0, Nat.zero_le _, rfl, x2, rfl, htab.out⟩
  case round =>
    clear htab x2
    obtain ⟨i, hi, rfl, z, rfl, hT⟩ := hrel
    by_cases hlt : i < c.length
    · have hio : i < p.opts.length := by omega
      have hs1 := fixT_shp p c i (by omega)
      have ho := hopt.out i hio
      obtain ⟨bf, of, rfl, hbf, c0⟩ := hfs.out i hlt
      replace hT := Lib.hid hT
      go_wp2
      go_loopw [7] (fun kv wr => ∃ k : Nat, k ≤ (nth p.opts i).length ∧ kv = .int .i64 k ∧ ∃ y : Later W1, wr = y.w ∧ OwnTab y (.slice at_ p.opts.length ct) (fixR (fixT p c i) i (nth c i) k) vs) (fun kv _ => (nth p.opts i).length - (intOf kv).toNat)
      case atStart => exact ⟨0, Nat.zero_le _, rfl, z, rfl, hT.out⟩
      case round =>
        clear hT z
        obtain ⟨k, hk, rfl, x, rfl, hT⟩ := hrel
        have hs2 := fixR_shp hs1 (i := i) (nth c i) k
        have hTT := Lib.hid hT
        obtain ⟨g, c2, q, hq, hgs, hq2, e0, hown, hrow⟩ := hT.at_ (i := i) (by rw [hs2.len]; exact hio)
        rw [hs2.len] at hq
        cases hq
        obtain ⟨agr_, cgr, rfl⟩ := owns_slice hown
        by_cases hltk : k < (nth p.opts i).length
        · obtain ⟨g', c3, hrr, hg', f0, f1, hset⟩ := hrow k (by rw [hs2.row i hio]; exact hltk)
          rw [hs2.row i hio] at hrr e0
          cases hrr
          obtain ⟨z, hz, ht'⟩ := hset ((k : Int) == nth c i)
          obtain ⟨z', hz', hzb⟩ := z.drew1
          replace ht' := Lib.hid (ht'.later hzb)
          clear hset hrow hown hq2 hT hTT
          go_wp2
          go_still_tail 12, (by kernel_rfl)
          go_wp2
          go_roundw
          case rel => exact ⟨k + 1, by omega, by go_num, z', rfl, ht'.out⟩
          case measure => simp [intOf]; omega
        · obtain rfl : k = (nth p.opts i).length := by omega
          rw [hs2.row i hio] at e0
          clear hrow hown hq2 hT
          go_wp2
          go_roundw
          case rel => exact ⟨i + 1, by omega, by go_num, x, rfl, hTT.out⟩
          case measure => simp [intOf]; omega
    · obtain rfl : i = c.length := by omega
      go_wp2
      go_ret; exact hfin.out _ hT
end Go.Proofs.Ytmpkbolabdmkkaa

/- CONTRACT of the reference's never. -/
namespace Go.Proofs.Ytmpkbolabdmkkaa
open Go.RowKit

theorem missF_iff {l h : List Bool} : ∀ n, missF l h n = true ↔ ∃ j, j < n ∧ nth l j = true ∧ nth h j = false
  | 0 => by simp [missF]
  | n + 1 => by
    rw [missF, Bool.or_eq_true, missF_iff n, Bool.and_eq_true, Bool.not_eq_true']
    constructor
    · rintro (⟨j, h1, h2⟩ | h2)
      · exact ⟨j, by omega, h2⟩
      · exact ⟨n, by omega, h2⟩
    · rintro ⟨j, h1, h2⟩
      rcases Nat.lt_succ_iff_lt_or_eq.1 h1 with h3 | rfl
      · exact .inl ⟨j, h3, h2⟩
      · exact .inr h2
theorem hitF_iff {l h : List Bool} : ∀ n, hitF l h n = true ↔ ∃ j, j < n ∧ nth l j = true ∧ nth h j = true
  | 0 => by simp [hitF]
  | n + 1 => by
    rw [hitF, Bool.or_eq_true, hitF_iff n, Bool.and_eq_true]
    constructor
    · rintro (⟨j, h1, h2⟩ | h2)
      · exact ⟨j, by omega, h2⟩
      · exact ⟨n, by omega, h2⟩
    · rintro ⟨j, h1, h2⟩
      rcases Nat.lt_succ_iff_lt_or_eq.1 h1 with h3 | rfl
      · exact .inl ⟨j, h3, h2⟩
      · exact .inr h2
theorem row_left {p : Prob} {c : List Int} {t : List (List Bool)} (hF : Fix p c t) {r : Rl} {k j : Nat} (hk : paneAt r k < p.opts.length) (hj : j < (nth p.opts (paneAt r k)).length) : nth (rowAt r t k) j = leftB c (paneAt r k) j := hF.at_ _ _ hk hj
theorem miss_left {p : Prob} {c : List Int} {t : List (List Bool)} (hF : Fix p c t) {r : Rl} {k : Nat} (hk : paneAt r k < p.opts.length) (hh : (nth r.hits k).length = (nth p.opts (paneAt r k)).length) : missF (rowAt r t k) (nth r.hits k) (rowAt r t k).length = missL r c k ∧ hitF (rowAt r t k) (nth r.hits k) (rowAt r t k).length = hitL r c k := by
  have hl : (rowAt r t k).length = (nth p.opts (paneAt r k)).length := hF.shp.row _ hk
  refine ⟨?_, ?_⟩
  · unfold missL
    rw [Bool.eq_iff_iff, missF_iff, decide_eq_true_iff]
    constructor
    · rintro ⟨j, h1, h2, h3⟩; exact ⟨j, by omega, by rw [← row_left hF hk (by omega)]; exact h2, h3⟩
    · rintro ⟨j, h1, h2, h3⟩; exact ⟨j, by omega, by rw [row_left hF hk (by omega)]; exact h2, h3⟩
  · unfold hitL
    rw [Bool.eq_iff_iff, hitF_iff, decide_eq_true_iff]
    constructor
    · rintro ⟨j, h1, h2, h3⟩; exact ⟨j, by omega, by rw [← row_left hF hk (by omega)]; exact h2, h3⟩
    · rintro ⟨j, h1, h2, h3⟩; exact ⟨j, by omega, by rw [row_left hF hk (by omega)]; exact h2, h3⟩
/-- a pair that is left and allowed -/
def allowAt (r : Rl) (t : List (List Bool)) (i k : Nat) : Bool := nth (nth r.ok i) k && (nth (rowAt r t 0) i && nth (rowAt r t 1) k)
theorem pair_left {p : Prob} {c : List Int} {t : List (List Bool)} (hF : Fix p c t) {r : Rl} (hk : r.kind = 2) (h0 : paneAt r 0 < p.opts.length) (h1 : paneAt r 1 < p.opts.length) (h8 : r.ok.length = (nth p.opts (paneAt r 0)).length) (h9 : ∀ i, i < r.ok.length → (nth r.ok i).length = (nth p.opts (paneAt r 1)).length) :
    (∀ i k, i < r.ok.length → k < (nth r.ok i).length → allowAt r t i k = true → brokenB r c = false) ∧ ((∀ i, i < r.ok.length → ∀ k, k < (nth r.ok i).length → allowAt r t i k = false) → brokenB r c = true) := by
  have e : ∀ i k, i < r.ok.length → k < (nth r.ok i).length → allowAt r t i k = (nth (nth r.ok i) k && (leftB c (paneAt r 0) i && leftB c (paneAt r 1) k)) := fun i k hi hk => by
    unfold allowAt
    rw [row_left hF h0 (by omega), row_left hF h1 (by rw [← h9 i hi]; exact hk)]
  unfold brokenB
  rw [if_pos hk]
  refine ⟨fun i k hi hk h => ?_, fun h => ?_⟩
  · rw [e i k hi hk, Bool.and_eq_true, Bool.and_eq_true] at h
    have : pairL r c = true := by unfold pairL; rw [decide_eq_true_iff]; exact ⟨i, hi, k, hk, h.2.1, h.2.2, h.1⟩
    rw [this]; rfl
  · have : pairL r c = false := by
      unfold pairL
      rw [decide_eq_false_iff_not]
      rintro ⟨i, hi, k, hk, h1, h2, h3⟩
      have := h i hi k hk
      rw [e i k hi hk, h1, h2, h3] at this
      cases this
    rw [this]; rfl

set_option maxRecDepth 100000 in
set_option maxHeartbeats 2000000 in
theorem rnever {W : World} (x : Later W) (v0 v1 v2 u2 u3 u6 vf : Value) (p : Prob) (r : Rl) (c : List Int) (hp : IsProb W v0 v1 v2 p) (hr : IsRl W u2 u3 u6 r) (hf : IsInts W vf c) (hval : validP p = true) (hro : ruleOK p r = true) (hlen : c.length ≤ p.opts.length) :
    Calls Try.prog 152 #[.agg #[v0, v1, v2], .agg #[.int .i64 r.item, .int .i64 r.kind, u2, u3, .int .i64 r.lo, .int .i64 r.hi, u6], vf] x.w (Ends W (.bool (brokenB r c))) := by
  go_enter Try.func152, Try.ntmps152
  go_upto_region 1 with (fail)
  obtain ⟨W1, x1, e1, hb1, ⟨s1, s2⟩, ⟨p0, p1, p2⟩, q0, q1, q2, q3, q4, q5, q6⟩ := enter37 x v0 v1 v2 (.int .i64 r.item) (.int .i64 r.kind) u2 u3 (.int .i64 r.lo) (.int .i64 r.hi) u6 26 87
  rw [e1]; clear e1
  have HP := Lib.hid (hp.below hb1)
  have HR := Lib.hid (hr.below hb1)
  have HF := Lib.hid (hf.below hb1)
  obtain ⟨ap, cp, rfl, lp, _⟩ := hp.panes.opened
  obtain ⟨ao, co, rfl, lo, _⟩ := hp.opts.opened
  obtain ⟨ar, cr, rfl, lr, _⟩ := hp.rules.opened
  obtain ⟨af, cf, rfl, lf, _⟩ := hf.opened
  obtain ⟨aq, cq, rfl, lq, _⟩ := hr.panes.opened
  obtain ⟨ah, ch, rfl, lh, _⟩ := hr.hits.opened
  obtain ⟨ak, ck, rfl, lk, _⟩ := hr.ok.opened
  clear hp hr hf
  go_upto_region 2 with (go_at_call 168; refine (rfixed x1 _ _ _ _ p c HP.out HF.out hval hlen).mono ?_; rintro e w' ⟨v, t, rfl, hFix, y1, rfl, hI⟩; have I1 := Lib.hid hI; obtain ⟨at_, ct, rfl, hx1, hx2⟩ := hI; clear hx1 hx2)
  replace q0 := Later.cells y1.h q0
  replace q1 := Later.cells y1.h q1
  replace q2 := Later.cells y1.h q2
  replace q3 := Later.cells y1.h q3
  replace q4 := Later.cells y1.h q4
  replace q5 := Later.cells y1.h q5
  replace q6 := Later.cells y1.h q6
  replace s2 := Later.sizes y1.h s2
  have hB := below_then hb1 y1
  replace HR := Lib.hid (HR.out.below y1.h)
  clear p0 p1 p2 s1 HF
  obtain ⟨W2, hW2⟩ : ∃ V, y1.w = V := ⟨_, rfl⟩
  rw [hW2] at q0 q1 q2 q3 q4 q5 q6 s2 hB HR I1 ⊢
  clear hW2 y1 HP
  obtain ⟨_, _, he, _, hq⟩ := HR.out.panes.opened
  cases he
  obtain ⟨_, _, he, _, hh⟩ := HR.out.hits.opened
  cases he
  obtain ⟨_, _, he, _, hk⟩ := HR.out.ok.opened
  cases he
  obtain ⟨_, _, he, lt, htab⟩ := I1.out.opened
  cases he
  clear I1 HR
  show Code.wp _ _ _ _ (Later.now W2).w
  generalize Later.now W2 = xb
  have hs := Lib.hid hFix.shp
  have hin := Lib.hid (shp_in hFix.shp (valid_len hval).symm.symm hro)
  by_cases hkind : r.kind = 2
  · have hk2 : (r.kind == 2) = true := by simp [hkind]
    have hpc : pairOK p r = true := by
      rcases ruleOK_iff.1 hro with h' | h'
      · omega
      · exact h'.2
    obtain ⟨h1, hx1, hx2, hx3, h5, h6, h7, h8, h9⟩ := pair_at hpc
    clear hx1 hx2 hx3
    have i0 := hin.out 0 (by omega)
    have i1 := hin.out 1 (by omega)
    have hlo := valid_len hval
    have hP0 : paneAt r 0 < p.opts.length := by unfold paneAt; omega
    have hP1 : paneAt r 1 < p.opts.length := by unfold paneAt; omega
    obtain ⟨hY, hN⟩ := pair_left hFix hkind hP0 hP1 h8 h9
    replace hY := Lib.hid hY
    replace hN := Lib.hid hN
    have hr0 : (rowAt r t 0).length = r.ok.length := (hs.out.row _ hP0).trans h8.symm
    have hr1 : Hid (∀ i, i < r.ok.length → (rowAt r t 1).length = (nth r.ok i).length) := Lib.hid (fun i hi => (hs.out.row _ hP1).trans (h9 i hi).symm)
    have hlp : 1 < r.panes.length := by omega
    obtain ⟨bq, oq, rfl, hbq, c0⟩ := hq.out 0 (by omega)
    obtain ⟨_, _, he, _, c1⟩ := hq.out 1 hlp
    cases he
    simp only [Nat.add_zero] at c0
    obtain ⟨bt, ot, rfl, hbt, ut0, t0, hU0⟩ := htab.out _ i0.2
    obtain ⟨_, _, he, _, ut1, t1, hU1⟩ := htab.out _ i1.2
    cases he
    obtain ⟨au0, cu0, rfl, lu0, hu0⟩ := hU0.opened
    obtain ⟨au1, cu1, rfl, lu1, hu1⟩ := hU1.opened
    rw [show nth t (nth r.panes 0).toNat = rowAt r t 0 from rfl] at t0 hu0 lu0
    rw [show nth t (nth r.panes 1).toNat = rowAt r t 1 from rfl] at t1 hu1 lu1
    replace hr0 := Lib.hid hr0
    clear hU0 hU1 hh lh h8 h9 hFix hkind hval hro hlo hs hin
    go_wp2
    go_loopw [8] (fun iv wr => ∃ i : Nat, i ≤ r.ok.length ∧ iv = .int .i64 i ∧ (∃ y : Later W2, wr = y.w) ∧ (∀ j, j < i → ∀ k, k < (nth r.ok j).length → allowAt r t j k = false)) (fun iv _ => r.ok.length - (intOf iv).toNat)
    case atStart => exact ⟨0, Nat.zero_le _, rfl, ⟨xb, rfl⟩, by omega⟩
    case round =>
      clear xb
      obtain ⟨i, hil, rfl, ⟨x, rfl⟩, hz⟩ := hrel
      replace hz := Lib.hid hz
      by_cases hlt : i < r.ok.length
      · have hlt0 : i < (rowAt r t 0).length := by rw [hr0.out]; exact hlt
        obtain ⟨bk, ok, rfl, hbk, uk, k0, hK⟩ := hk.out i hlt
        obtain ⟨ak, ck', rfl, _, hkr⟩ := hK.opened
        clear hK
        obtain ⟨b0, o0, rfl, hb0', r0⟩ := hu0.out i hlt0
        go_wp2
        go_loopw [9] (fun kv wr => ∃ k : Nat, k ≤ (nth r.ok i).length ∧ kv = .int .i64 k ∧ (∃ y : Later W2, wr = y.w) ∧ (∀ j, j < k → allowAt r t i j = false)) (fun kv _ => (nth r.ok i).length - (intOf kv).toNat)
        case atStart => exact ⟨0, Nat.zero_le _, rfl, ⟨x, rfl⟩, by omega⟩
        case round =>
          clear x
          obtain ⟨k, hkl, rfl, ⟨x, rfl⟩, hz2⟩ := hrel
          replace hz2 := Lib.hid hz2
          by_cases hlt2 : k < (nth r.ok i).length
          · have hlt1 : k < (rowAt r t 1).length := by rw [hr1.out i hlt]; exact hlt2
            obtain ⟨bw, ow, rfl, hbw, d0⟩ := hkr.out k hlt2
            obtain ⟨b1, o1, rfl, hb1', r1⟩ := hu1.out k hlt1
            have hT : Hid (allowAt r t i k = (nth (nth r.ok i) k && (nth (rowAt r t 0) i && nth (rowAt r t 1) k))) := Lib.hid rfl
            cases hA : nth (nth r.ok i) k <;> rw [hA] at d0 hT
            · go_wp2
              go_roundw
              case rel => exact ⟨k + 1, by omega, by go_num, ⟨x, rfl⟩, all_step hz2.out (by rw [hT.out]; rfl)⟩
              case measure => simp [intOf]; omega
            · cases hB0 : nth (rowAt r t 0) i <;> rw [hB0] at r0 hT
              · go_wp2
                go_roundw
                case rel => exact ⟨k + 1, by omega, by go_num, ⟨x, rfl⟩, all_step hz2.out (by rw [hT.out]; rfl)⟩
                case measure => simp [intOf]; omega
              · cases hB1 : nth (rowAt r t 1) k <;> rw [hB1] at r1 hT
                · go_wp2
                  go_roundw
                  case rel => exact ⟨k + 1, by omega, by go_num, ⟨x, rfl⟩, all_step hz2.out (by rw [hT.out]; rfl)⟩
                  case measure => simp [intOf]; omega
                · have hyes := hY.out i k hlt hlt2 hT.out
                  replace hyes := Lib.hid hyes
                  go_wp2
                  go_ret; exact ⟨ret_bool hyes.out.symm, x.down hB⟩
          · obtain rfl : k = (nth r.ok i).length := by omega
            go_wp2
            go_roundw
            case rel => exact ⟨i + 1, by omega, by go_num, ⟨x, rfl⟩, all_step hz.out hz2.out⟩
            case measure => simp [intOf]; omega
      · obtain rfl : i = r.ok.length := by omega
        have hno := hN.out hz.out
        replace hno := Lib.hid hno
        go_wp2
        go_ret; exact ⟨ret_bool hno.out.symm, x.down hB⟩
  · have hk2 : (r.kind == 2) = false := by simp [hkind]
    have hpc : cntOK p r = true := by
      rcases ruleOK_iff.1 hro with h' | h'
      · exact h'.2
      · omega
    obtain ⟨hhl, hok0, hat⟩ := cnt_at hpc
    clear hok0
    have hlo := valid_len hval
    have hrow : Hid (∀ k, k < r.panes.length → (nth r.hits k).length = (rowAt r t k).length ∧ missF (rowAt r t k) (nth r.hits k) (rowAt r t k).length = missL r c k ∧ hitF (rowAt r t k) (nth r.hits k) (rowAt r t k).length = hitL r c k) := Lib.hid (fun k hk => by
      obtain ⟨a1, a2, _, a4⟩ := hat k hk
      have hP : paneAt r k < p.opts.length := by unfold paneAt; omega
      exact ⟨a4.trans (hs.out.row _ hP).symm, miss_left hFix hP a4⟩)
    have hend : Hid (brokenB r c = decide (min (mostL r c r.panes.length) r.hi < max (leastL r c r.panes.length) r.lo)) := Lib.hid (by unfold brokenB; rw [if_neg hkind])
    replace hhl := Lib.hid hhl
    clear hat hkind hFix hval hro hlo hs
    go_wp2
    go_loopw [10, 11, 12] (fun lv mv i wr => ∃ k : Nat, k ≤ r.panes.length ∧ i = .int .i64 k ∧ lv = .int .i64 (leastL r c k) ∧ mv = .int .i64 (mostL r c k) ∧ ∃ y : Later W2, wr = y.w) (fun _ _ i _ => r.panes.length - (intOf i).toNat)
    case atStart => exact ⟨0, Nat.zero_le _, rfl, rfl, rfl, xb, rfl⟩
    case round =>
      clear xb
      obtain ⟨k, hkl, rfl, rfl, rfl, ⟨x, rfl⟩⟩ := hrel
      have hbd1 := leastL_bd r c k
      have hbd2 := mostL_bd r c k
      by_cases hlt : k < r.panes.length
      · obtain ⟨g1, g2⟩ := hin.out k hlt
        have hkh : k < r.hits.length := by rw [hhl.out]; exact hlt
        obtain ⟨hrk, hmi, hhi⟩ := hrow.out k hlt
        have HL : Hid (leastL r c (k + 1) = if missL r c k = true then leastL r c k else leastL r c k + 1) := Lib.hid rfl
        have HM : Hid (mostL r c (k + 1) = if hitL r c k = true then mostL r c k + 1 else mostL r c k) := Lib.hid rfl
        obtain ⟨bq, oq, rfl, hbq, c0⟩ := hq.out k hlt
        obtain ⟨bt, ot, rfl, hbt, ut, ct0, hU⟩ := htab.out _ g2
        rw [show nth t (nth r.panes k).toNat = rowAt r t k from rfl] at hU
        obtain ⟨bh, oh, rfl, hbh, uh, ch0, hH⟩ := hh.out k hkh
        have hF := Lib.hid (fun y : Later W2 => rfree y _ _ _ _ hU hH hrk)
        rw [hmi, hhi] at hF
        obtain ⟨au, cu, rfl, lu, hu⟩ := hU.opened
        obtain ⟨avh, cvh, rfl, lvh, hhu⟩ := hH.opened
        clear hU hH hmi hhi hu hhu
        replace hrk := Lib.hid hrk
        cases hM : missL r c k <;> cases hH : hitL r c k <;> rw [hM] at hF HL <;> rw [hH] at hF HM
        all_goals
          go_wp2
          refine wp_region_later x (by kernel_rfl) (by kernel_rfl) ?_
          repeat (go_big_quiet_step ((go_at_call 145; exact hF.out _)))
          refine wpQuiet_nil ?_
          rintro _ ⟨x, rfl⟩
          go_wp2
          go_roundw
          case rel => exact ⟨k + 1, by omega, by go_num, by rw [HL.out]; simp, by rw [HM.out]; simp, x, rfl⟩
          case measure => simp [intOf]; omega
      · obtain rfl : k = r.panes.length := by omega
        go_wp2
        go_ret; exact ⟨ret_bool hend.out.symm, x.down hB⟩
end Go.Proofs.Ytmpkbolabdmkkaa

/- CONTRACTS of the reference's SameNodes (of equal trees) and nodes. -/
namespace Go.Proofs.Ytmpkbolabdmkkaa
open Go.RowKit

set_option maxRecDepth 100000 in
set_option maxHeartbeats 1000000 in
theorem rsame_core {W : World} (x : Later W) (ka kb : Value) (n : Nd) (ha : IsNd W ka n) (hb : IsNd W kb n)
    (IH : ∀ z, z ∈ n.kids → ∀ (V : World) (u w : Value), IsNd V u z → IsNd V w z → ∀ y : Later V, Calls Try.prog 61 #[.agg #[.int .i64 z.kind, .int .i64 z.index, u], .agg #[.int .i64 z.kind, .int .i64 z.index, w]] y.w (Ends V (.bool true))) :
    Calls Try.prog 61 #[.agg #[.int .i64 n.kind, .int .i64 n.index, ka], .agg #[.int .i64 n.kind, .int .i64 n.index, kb]] x.w (Ends W (.bool true)) := by
  obtain ⟨kN, hkN⟩ : ∃ q, n.kind = q := ⟨_, rfl⟩
  obtain ⟨kI, hkI⟩ : ∃ q, n.index = q := ⟨_, rfl⟩
  rw [hkN, hkI]
  clear hkN hkI
  replace IH := Lib.hid IH
  go_enter Try.func61, Try.ntmps61
  go_upto_region 1 with (fail)
  obtain ⟨W1, x1, e1, hb1, s1, p0, p1, p2⟩ := enter3 x (.int .i64 kN) (.int .i64 kI) ka 64
  rw [show x.w.heap.size + 1 = x1.w.heap.size by rw [← e1]; simp, e1]
  clear e1
  obtain ⟨b2, hB2⟩ : ∃ b, x.w.heap.size = b := ⟨_, rfl⟩
  rw [hB2] at p0 p1 p2 s1 ⊢
  clear hB2 x
  obtain ⟨W2, x2, e2, hb2, s2, q0, q1, q2⟩ := enter3 x1 (.int .i64 kN) (.int .i64 kI) kb 64
  rw [e2]
  clear e2
  obtain ⟨b3, hB3⟩ : ∃ b, x1.w.heap.size = b := ⟨_, rfl⟩
  rw [hB3] at q0 q1 q2 s2 ⊢
  clear hB3 x1
  replace p0 := Later.cells hb2 p0
  replace p1 := Later.cells hb2 p1
  replace p2 := Later.cells hb2 p2
  replace s1 := Later.sizes hb2 s1
  have hB := hb1.trans (hb2.mono hb1.size)
  obtain ⟨aa, ca, rfl, lk, hka⟩ := (ha.below hB).opened
  obtain ⟨ab, cb, rfl, _, hkb⟩ := (hb.below hB).opened
  clear ha hb hb1 hb2
  have hF : Hid (∀ y : Later W2, Ends W (.bool true) (.returned (.bool true)) y.w) := Lib.hid (fun y => ⟨rfl, y.down hB⟩)
  go_wp2
  go_loopw [5] (fun i wr => ∃ j : Nat, j ≤ n.kids.length ∧ i = .int .i64 j ∧ ∃ y : Later W2, wr = y.w) (fun i _ => n.kids.length - (intOf i).toNat)
  case atStart => exact ⟨0, Nat.zero_le _, rfl, x2, rfl⟩
  case round =>
    clear x2
    obtain ⟨j, hj, rfl, x, rfl⟩ := hrel
    by_cases hlt : j < n.kids.length
    · obtain ⟨b, o, rfl, hbs, u, c0, c1, c2, hu⟩ := hka.out j hlt
      obtain ⟨b', o', rfl, hbs', w, d0, d1, d2, hw⟩ := hkb.out j hlt
      have hIH := Lib.hid (IH.out (nth n.kids j) (nth_mem hlt) W2 u w hu hw)
      obtain ⟨_, _, rfl, _, _⟩ := hu.opened
      obtain ⟨_, _, rfl, _, _⟩ := hw.opened
      obtain ⟨zk, hzk⟩ : ∃ q, (nth n.kids j).kind = q := ⟨_, rfl⟩
      obtain ⟨zi, hzi⟩ : ∃ q, (nth n.kids j).index = q := ⟨_, rfl⟩
      rw [hzk] at c0 d0 hIH
      rw [hzi] at c1 d1 hIH
      clear hzk hzi hu hw
      go_wp2
      refine wp_region_later x (by kernel_rfl) (by kernel_rfl) ?_
      repeat (go_big_quiet_step ((go_at_call 61; exact hIH.out _)))
      refine wpQuiet_nil ?_
      rintro _ ⟨x, rfl⟩
      go_wp2
      go_roundw
      case rel => exact ⟨j + 1, by omega, by go_num, x, rfl⟩
      case measure => simp [intOf]; omega
    · obtain rfl : j = n.kids.length := by omega
      go_wp2
      go_ret; exact hF.out x
theorem rSameNodes {W : World} (x : Later W) (ka kb : Value) (n : Nd) (ha : IsNd W ka n) (hb : IsNd W kb n) :
    Calls Try.prog 61 #[.agg #[.int .i64 n.kind, .int .i64 n.index, ka], .agg #[.int .i64 n.kind, .int .i64 n.index, kb]] x.w (Ends W (.bool true)) :=
  rsame_core x ka kb n ha hb (fun z _ V u w a b y => rSameNodes y u w z a b)
termination_by SizeOf.sizeOf n
decreasing_by exact nd_size n z (by assumption)
set_option maxRecDepth 100000 in
set_option maxHeartbeats 1000000 in
theorem rnodes_core {W : World} (x : Later W) (k : Value) (n : Nd) (m : Int) (h0 : 0 ≤ m) (hm : m ≤ 1000000) (hk : IsNd W k n)
    (IH : ∀ z, z ∈ n.kids → ∀ (V : World) (u : Value) (m' : Int), 0 ≤ m' → m' ≤ 1000000 → IsNd V u z → ∀ y : Later V, Calls Try.prog 122 #[.agg #[.int .i64 z.kind, .int .i64 z.index, u], .int .i64 m'] y.w (Ends V (.int .i64 (wideN z m')))) :
    Calls Try.prog 122 #[.agg #[.int .i64 n.kind, .int .i64 n.index, k], .int .i64 m] x.w (Ends W (.int .i64 (wideN n m))) := by
  obtain ⟨kN, hkN⟩ : ∃ q, n.kind = q := ⟨_, rfl⟩
  obtain ⟨kI, hkI⟩ : ∃ q, n.index = q := ⟨_, rfl⟩
  rw [hkN, hkI]
  clear hkN hkI
  obtain ⟨wv, hwv⟩ : ∃ q, wideN n m = q := ⟨_, rfl⟩
  have hst : wideL (n.kids.drop 0) m 1 = wv := by rw [List.drop_zero, ← wideN_kids]; exact hwv
  rw [hwv]
  clear hwv
  replace IH := Lib.hid IH
  go_enter Try.func122, Try.ntmps122
  go_upto_region 1 with (fail)
  obtain ⟨W1, x1, e1, hb1, s1, p0, p1, p2⟩ := enter3 x (.int .i64 kN) (.int .i64 kI) k 64
  rw [e1]
  clear e1
  obtain ⟨b2, hB2⟩ : ∃ b, x.w.heap.size = b := ⟨_, rfl⟩
  rw [hB2] at p0 p1 p2 s1 ⊢
  clear hB2 x
  obtain ⟨ak, ck, rfl, lk, hkids⟩ := (hk.below hb1).opened
  clear hk
  have hF : Hid (∀ y : Later W1, Ends W (.int .i64 wv) (.returned (.int .i64 wv)) y.w) := Lib.hid (fun y => ⟨rfl, y.down hb1⟩)
  replace hst := Lib.hid hst
  go_wp2
  go_loopw [5, 6] (fun s i wr => ∃ j : Nat, j ≤ n.kids.length ∧ i = .int .i64 j ∧ ∃ sv : Int, s = .int .i64 sv ∧ 1 ≤ sv ∧ sv ≤ m + 1 ∧ Hid (wideL (n.kids.drop j) m sv = wv) ∧ ∃ y : Later W1, wr = y.w) (fun _ i _ => n.kids.length - (intOf i).toNat)
  case atStart => exact ⟨0, Nat.zero_le _, rfl, 1, rfl, by omega, by omega, hst, x1, rfl⟩
  case round =>
    obtain ⟨j, hj, rfl, sv, rfl, h1, h2, hW, x, rfl⟩ := hrel
    by_cases hlt : j < n.kids.length
    · by_cases hs : sv ≤ m
      · obtain ⟨b, o, rfl, hb, u, c0, c1, c2, hu⟩ := hkids.out j hlt
        have hIH := Lib.hid (IH.out (nth n.kids j) (nth_mem hlt) W1 u (m - sv) (by omega) (by omega) hu)
        have hbd := (wideN_bd (nth n.kids j) (m - sv) (by omega))
        have hdr := wideL_drop hlt hs
        obtain ⟨zk, hzk⟩ : ∃ q, (nth n.kids j).kind = q := ⟨_, rfl⟩
        obtain ⟨zi, hzi⟩ : ∃ q, (nth n.kids j).index = q := ⟨_, rfl⟩
        obtain ⟨zw, hzw⟩ : ∃ q, wideN (nth n.kids j) (m - sv) = q := ⟨_, rfl⟩
        rw [hzk] at c0 hIH
        rw [hzi] at c1 hIH
        rw [hzw] at hIH hbd hdr
        have g1 := hbd.1
        have g2 := hbd.2.1
        replace hW : Hid (wideL (n.kids.drop (j + 1)) m (sv + zw) = wv) := Lib.hid (by rw [← hdr]; exact hW.out)
        clear hzk hzi hzw hu hbd hdr
        go_wp2_with (go_at_call 122; refine (hIH.out x).mono ?_; rintro e w' ⟨rfl, x, rfl⟩)
        go_roundw
        case rel => exact ⟨j + 1, by omega, by go_num, sv + zw, by go_num, by omega, by omega, hW, x, rfl⟩
        case measure => simp [intOf]; omega
      · obtain rfl : sv = wv := by have := hW.out; rw [wideL_stop _ (by omega)] at this; exact this
        go_wp2
        go_ret; exact hF.out x
    · obtain rfl : j = n.kids.length := by omega
      obtain rfl : sv = wv := by have := hW.out; rw [List.drop_length] at this; exact this
      go_wp2
      go_ret; exact hF.out x
theorem rnodes {W : World} (x : Later W) (k : Value) (n : Nd) (m : Int) (h0 : 0 ≤ m) (hm : m ≤ 1000000) (hk : IsNd W k n) :
    Calls Try.prog 122 #[.agg #[.int .i64 n.kind, .int .i64 n.index, k], .int .i64 m] x.w (Ends W (.int .i64 (wideN n m))) :=
  rnodes_core x k n m h0 hm hk (fun z _ V u m' a b c y => rnodes y u z m' a b c)
termination_by SizeOf.sizeOf n
decreasing_by exact nd_size n z (by assumption)
end Go.Proofs.Ytmpkbolabdmkkaa
