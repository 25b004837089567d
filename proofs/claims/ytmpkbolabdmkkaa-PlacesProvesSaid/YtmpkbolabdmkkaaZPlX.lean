/- CONTRACT of places' table. -/
import Derived.Test.YtmpkbolabdmkkaaZl
import Derived.Test.YtmpkbolabdmkkaaZPlT
namespace Go.Proofs.Ytmpkbolabdmkkaa
open Go.RowKit

/-- the first k rows of a table, the others nil -/
def tabTo (p : Prob) (b : Bool) (k : Nat) : List (List Bool) := fullTo p b k ++ List.replicate (p.opts.length - k) []
theorem tabTo_len {p : Prob} {b : Bool} {k : Nat} (hk : k ≤ p.opts.length) : (tabTo p b k).length = p.opts.length := by
  unfold tabTo; rw [List.length_append, fullTo_len p b hk, List.length_replicate]; omega
theorem tabTo_all (p : Prob) (b : Bool) : tabTo p b p.opts.length = fullTab p b := by unfold tabTo fullTab; simp
theorem tabTo_set {p : Prob} {b : Bool} {k : Nat} (hk : k < p.opts.length) : (tabTo p b k).set k (List.replicate (nth p.opts k).length b) = tabTo p b (k + 1) := by
  unfold tabTo
  rw [fullTo_succ p b hk, List.set_append_right _ _ (by rw [fullTo_len p b (by omega)]; exact Nat.le_refl _), fullTo_len p b (by omega), Nat.sub_self]
  rw [show p.opts.length - k = (p.opts.length - (k + 1)) + 1 by omega, List.replicate_succ]
  simp

/-- a row of a table put in -/
theorem OwnTab.put {W : World} {y : Later W} {v : Value} {t : List (List Bool)} {vs : List Value} (h : OwnTab y v t vs) {i : Nat} (hi : i < t.length) (z : Later y.w) (u : Value) (g : List Bool)
    (hu : z.w.ownsRow y.w.heap.size 4 1 u g.length (g.map Value.bool)) (hnil : ∀ j, i < j → j < t.length → vs[j]? = some (.slice none 0 0)) {g0 c : Nat} (hv : v = .slice (some ⟨g0, 0, none⟩) t.length c) :
    z.w.cell? ⟨g0, i, none⟩ = vs[i]? ∧ z.w.frozen? ⟨g0, i, none⟩ = false ∧ ∃ z' : Later W, z.w.setCell ⟨g0, i, none⟩ u = z'.w ∧ OwnTab z' v (t.set i g) (vs.set i u) := by
  subst hv
  have hz := h.later (z := y.up z) z.h
  obtain ⟨d0, d1, d2, d3⟩ := owns_at (y.up z) hz.outer i hi
  obtain ⟨z', hz', ho, hg⟩ := d3 u
  have hvl := h.len
  have hib : vs.length = t.length := hvl
  refine ⟨d0, d1, z', hz', ⟨by rw [List.length_set]; exact ho, by simp [hvl], fun j hj => ?_, ?_⟩⟩
  · rw [List.length_set] at hj
    by_cases hji : j = i
    · subst hji
      refine ⟨u, by simp [hib, hi], ?_⟩
      rw [nth_set_same hi]
      refine owns_mono (World.ownsRow.kept (base := y.w.heap.size) hu hg ?_) y.h.size
      exact .inr (fun e => own_block_ne hz.outer hu (by decide) g0 rfl e)
    · obtain ⟨q, hq, hq'⟩ := hz.rows j hj
      refine ⟨q, by rw [List.getElem?_set_ne (Ne.symm hji)]; exact hq, ?_⟩
      rw [nth_set_other hji]
      exact hq'.kept hg (.inr (fun e => own_block_ne hz.outer hq' (by decide) g0 rfl e))
  · intro a b hab q q' hq hq' c1 c2 hc1 hc2
    have hbl : b < vs.length := by have := (List.getElem?_eq_some_iff.1 hq').1; simpa using this
    by_cases hbi : b = i
    · subst hbi
      rw [List.getElem?_set_ne (by omega)] at hq
      have : q' = u := by simpa [hbl] using hq'.symm
      subst this
      have h1 := h.block a q c1 hq hc1
      have h2 := hu.lt c2 hc2
      omega
    · rw [List.getElem?_set_ne (Ne.symm hbi)] at hq'
      by_cases hai : a = i
      · subst hai
        rw [hnil b hab (by omega)] at hq'
        cases hq'
        cases hc2
      · rw [List.getElem?_set_ne (Ne.symm hai)] at hq
        exact h.apart a b hab q q' hq hq' c1 c2 hc1 hc2

/-- 'make([][]bool, n)', run -/
theorem makeRows_run (n : Nat) (hn : n ≤ 65536) : ∃ cs : Array Value, (∀ w : World, (Instr.makeSlice 48 (.int .i64 n) (.int .i64 n)).run Try.prog w = .ok (.slice (some ⟨w.heap.size, 0, none⟩) n n) (w.alloc (.cells cs 52))) ∧
    ∀ (W : World) (y : Later W), ∃ z : Later W, y.w.alloc (.cells cs 52) = z.w ∧ OwnTab z (.slice (some ⟨y.w.heap.size, 0, none⟩) n n) (List.replicate n []) (List.replicate n (.slice none 0 0)) := by
  obtain ⟨i0, hi, hz0, hz1, hz2⟩ := info_parts Try.info52
  refine ⟨madeCells (Value.slice none 0 0).cells n, fun w => ?_, fun W y => ?_⟩
  · have := run_make (P := Try.prog) w 48 52 i0 _ Try.underlying48 hi hz0 .i64 .i64 n n (by omega) (by omega) (by rw [hz2]; omega) (by omega)
    simpa [hz1] using this
  · obtain ⟨z, hz⟩ := y.alloc (.cells (madeCells (Value.slice none 0 0).cells n) 52)
    have := World.ownsRow_lit (base := W.heap.size) (e := 52) (size := 1) y.w (madeCells (Value.slice none 0 0).cells n) n y.h.size (by unfold maxLen; omega) (by simp [size_madeCells])
    rw [show (madeCells (Value.slice none 0 0).cells n).toList = List.replicate n (.slice none 0 0) from toList_madeCells_one _ _] at this
    rw [hz] at this
    refine ⟨z, hz, ⟨by simpa using this, by simp, fun i hi => ⟨.slice none 0 0, by rw [List.getElem?_replicate, if_pos (by simpa using hi)], ?_⟩, ?_⟩⟩
    · rw [nth_eq _ _ hi, List.getElem_replicate]; exact World.ownsRow_nil _ _ _ _
    · intro i j _ q q' hq _ b _ hb
      have hil : i < n := by have := (List.getElem?_eq_some_iff.1 hq).1; simpa using this
      have : q = .slice none 0 0 := by simpa [hil] using hq.symm
      subst this
      cases hb

theorem row_call {W : World} (y : Later W) (b : Bool) (n : Nat) (h1 : 1 ≤ n) (hn : n ≤ 65536) :
    Calls Try.prog 143 #[.slice (some ⟨y.w.heap.size, 0, none⟩) 1 1, .int .i64 n] (y.w.alloc (.cells #[.bool b] 4)) fun e w' => ∃ g, e = .returned (.slice (some ⟨g, 0, none⟩) n n) ∧ ∃ z : Later y.w, w' = z.w ∧ z.w.ownsRow y.w.heap.size 4 1 (.slice (some ⟨g, 0, none⟩) n n) (List.replicate n b).length ((List.replicate n b).map Value.bool) := by
  have hb := below_alloc1 y.w (.cells #[.bool b] 4)
  have h : IsBools (y.w.alloc (.cells #[.bool b] 4)) (.slice (some ⟨y.w.heap.size, 0, none⟩) 1 1) [b] := by
    have := World.ownsRow_lit (base := y.w.heap.size) (e := 4) (size := 1) y.w #[.bool b] 1 (Nat.le_refl _) (by unfold maxLen; omega) (by simp)
    exact isBools_of_owns (l := [b]) (by simpa using this) (by simp)
  refine (prepeat (Later.now _) _ b n h h1 hn).mono ?_
  rintro e w' ⟨u, rfl, z, rfl, hu⟩
  obtain ⟨z', hz'⟩ := z.down hb
  exact ⟨u, rfl, z', hz', by rw [List.length_replicate, ← hz']; exact owns_mono hu hb.size⟩

/-- all rows of a table fill their blocks -/
def SnugTo (t : List (List Bool)) (vs : List Value) (k : Nat) : Prop := ∀ i, i < k → ∃ g, vs[i]? = some (.slice (some ⟨g, 0, none⟩) (nth t i).length (nth t i).length)
def Snug (t : List (List Bool)) (vs : List Value) : Prop := SnugTo t vs t.length
def EndsTabS (W : World) (t : List (List Bool)) (e : Ending) (w' : World) : Prop := ∃ v, e = .returned v ∧ ∃ y : Later W, w' = y.w ∧ ∃ vs, OwnTab y v t vs ∧ Snug t vs
theorem EndsTabS.weak {W : World} {t : List (List Bool)} {e : Ending} {w' : World} (h : EndsTabS W t e w') : EndsTab W t e w' := let ⟨v, h1, y, h2, vs, h3, _⟩ := h; ⟨v, h1, y, h2, vs, h3⟩
theorem SnugTo.step {t : List (List Bool)} {vs : List Value} {k : Nat} (h : SnugTo t vs k) (hk : k < t.length) (hv : vs.length = t.length) (g : List Bool) (b : Nat) : SnugTo (t.set k g) (vs.set k (.slice (some ⟨b, 0, none⟩) g.length g.length)) (k + 1) := by
  intro i hi
  rcases Nat.lt_succ_iff_lt_or_eq.1 hi with h1 | rfl
  · obtain ⟨q, hq⟩ := h i h1
    exact ⟨q, by rw [List.getElem?_set_ne (by omega), nth_set_other (by omega)]; exact hq⟩
  · exact ⟨b, by rw [nth_set_same hk]; simp [hv, hk]⟩

set_option maxRecDepth 100000 in
set_option maxHeartbeats 1000000 in
theorem ptable {W : World} (x : Later W) (v0 v1 v2 : Value) (p : Prob) (b : Bool) (hp : IsProb W v0 v1 v2 p) (hv : validP p = true) :
    Calls Try.prog 103 #[.agg #[v0, v1, v2], .bool b] x.w (EndsTabS W (fullTab p b)) := by
  have hlen0 := Lib.hid (valid_len hv)
  have hn : p.opts.length ≤ 65536 := by have := valid_len hv; have := valid_pane64 hv; omega
  have hV := Lib.hid (fun i hi => @valid_opts p hv i hi)
  clear hv
  obtain ⟨ap, cp, rfl, lp, hpanes⟩ := hp.panes.opened
  rw [← hlen0.out] at hpanes hp lp ⊢
  clear hlen0 hpanes
  obtain ⟨ao, co, rfl, lo, _⟩ := hp.opts.opened
  obtain ⟨cs, hmk, hct⟩ := makeRows_run p.opts.length hn
  replace hct := Lib.hid hct
  go_enter Try.func103, Try.ntmps103
  go_upto_region 1 with (fail)
  obtain ⟨W1, x1, e1, hb1, s1, p0, p1, p2⟩ := enter3 x (.slice ap p.opts.length cp) (.slice ao p.opts.length co) v2 26
  rw [e1]; clear e1
  have hopts := (hp.opts.below hb1)
  clear hp
  obtain ⟨_, _, hq, _, hopts⟩ := hopts.opened
  cases hq
  go_upto_region 2 with (fail)
  obtain ⟨z, hz, hT⟩ := hct.out _ x1
  rw [hz]
  clear hct hmk
  obtain ⟨g, hg, hgl⟩ : ∃ g, g = x1.w.heap.size ∧ g < z.w.heap.size := ⟨_, rfl, by rw [← hz]; simp⟩
  rw [← hg] at hT ⊢
  clear hz hg
  have hT0 : OwnTab z (.slice (some ⟨g, 0, none⟩) p.opts.length p.opts.length) (tabTo p b 0) (List.replicate p.opts.length (.slice none 0 0)) := by
    unfold tabTo fullTo; simpa using hT
  clear hT
  replace hT0 := Lib.hid hT0
  go_wp2
  go_loopw [15] (fun i wr => ∃ k : Nat, k ≤ p.opts.length ∧ i = .int .i64 k ∧ ∃ y : Later W1, wr = y.w ∧ ∃ vs, OwnTab y (.slice (some ⟨g, 0, none⟩) p.opts.length p.opts.length) (tabTo p b k) vs ∧ SnugTo (tabTo p b k) vs k ∧ ∀ j, k ≤ j → j < p.opts.length → vs[j]? = some (.slice none 0 0)) (fun i _ => p.opts.length - (intOf i).toNat)
  case atStart => exact ⟨0, Nat.zero_le _, rfl, z, rfl, _, hT0.out, fun i hi => absurd hi (Nat.not_lt_zero _), fun j _ hj => by rw [List.getElem?_replicate, if_pos hj]⟩
  case round =>
    obtain ⟨k, hk, rfl, ⟨x, rfl, vs, hout, hsn, hnil⟩⟩ := hrel
    by_cases hlt : k < p.opts.length
    · obtain ⟨bo, oo, rfl, hbo, u, c0, hu⟩ := hopts.out k hlt
      obtain ⟨au, cu, rfl, lu, _⟩ := hu.opened
      have HS := Lib.hid (@tabTo_set p b k hlt)
      obtain ⟨hu1, hu2⟩ := hV.out k hlt
      have hC := Lib.hid (row_call x b (nth p.opts k).length hu1 (by omega))
      have hP := Lib.hid (fun z u hu => @OwnTab.put _ x _ _ _ hout k (by rw [tabTo_len hk]; exact hlt) z u (List.replicate (nth p.opts k).length b) hu (fun j h1 h2 => hnil j (by omega) (by rwa [tabTo_len hk] at h2)) g p.opts.length (by rw [tabTo_len hk]))
      have hnil' := Lib.hid hnil
      have hsn' := Lib.hid (hsn.step (by rw [tabTo_len hk]; exact hlt) hout.len (List.replicate (nth p.opts k).length b))
      clear hsn
      clear hnil hout
      have q0 := Later.cells x.h p0
      have q1 := Later.cells x.h p1
      have r0 := Later.cells x.h c0
      have rb := Later.sizes x.h hbo
      have sb := Later.sizes x.h s1
      go_wp2_with (go_at_call 143; refine hC.out.mono ?_; rintro e w' ⟨g', rfl, y, rfl, hrow⟩; obtain ⟨d0, d1, z', hz', hT'⟩ := hP.out y _ hrow; rw [hnil'.out k (Nat.le_refl _) hlt] at d0; have hT2 := Lib.hid hT'; clear hT' hrow)
      go_roundw
      case rel => exact ⟨k + 1, by omega, by go_num, z', rfl, _, by rw [← HS.out]; exact hT2.out, by rw [← HS.out]; have h3 := hsn'.out g'; rw [List.length_replicate] at h3; exact h3, fun j h1 h2 => by rw [List.getElem?_set_ne (by omega)]; exact hnil'.out j (by omega) h2⟩
      case measure => simp [intOf]; omega
    · obtain rfl : k = p.opts.length := by omega
      go_wp2
      go_ret
      obtain ⟨z, hz, ht⟩ := hout.down hb1
      exact ⟨_, rfl, z, hz, vs, by rw [← tabTo_all]; exact ht, by rw [← tabTo_all]; unfold Snug; rw [tabTo_len (Nat.le_refl _)]; exact hsn⟩
end Go.Proofs.Ytmpkbolabdmkkaa
