/- THE DATA of chapter 7 as plain Lean: options, rules, problems, and what the functions answer, with no program in sight. -/
import Derived.Test.YtmpkbolabdmkkaaRows
import Derived.WalkKit
import Derived.WalkSpells
import Derived.WalkLawsBesides
import Derived.Deep.QuietTactic
import Derived.BigQuiet
import Derived.Deep.LoopGhost
import Derived.Deep.DeepMust
import Derived.Lib.Hide
import Derived.Deep.Cut
import Derived.Deep.CutBlock
import Derived.Deep.DeepCutAuto
import Derived.StillTailTactics
namespace Go.Proofs.Ytmpkbolabdmkkaa

structure Opt where
  piece : Int
  shift : Int
  back : Bool
  colour : Int
deriving Inhabited, DecidableEq

structure Rl where
  item : Int
  kind : Int
  panes : List Int
  hits : List (List Bool)
  lo : Int
  hi : Int
  ok : List (List Bool)
deriving Inhabited, DecidableEq

structure Prob where
  panes : List Int
  opts : List (List Opt)
  rules : List Rl
deriving Inhabited, DecidableEq

/-- the i-th element; closed to simp -/
def nth {α : Type} [Inhabited α] (l : List α) (i : Nat) : α := l.getD i default
theorem nth_eq {α : Type} [Inhabited α] (l : List α) (i : Nat) (h : i < l.length) : nth l i = l[i] := by unfold nth; simp [List.getD, h]

theorem all_step {P : Nat → Prop} {k : Nat} (h : ∀ i, i < k → P i) (hk : P k) : ∀ i, i < k + 1 → P i := fun i hi => by
  rcases Nat.lt_succ_iff_lt_or_eq.1 hi with h' | rfl
  · exact h i h'
  · exact hk

/-- a number is from lo to hi -/
def wi (n lo hi : Int) : Bool := decide (lo ≤ n ∧ n ≤ hi)
theorem wi_iff {n lo hi : Int} : wi n lo hi = true ↔ lo ≤ n ∧ n ≤ hi := by simp [wi]
theorem wi_no {n lo hi : Int} : wi n lo hi = false ↔ n < lo ∨ hi < n := by simp [wi]; omega

/-- an option is one -/
def optOK (o : Opt) : Bool := (!(o.piece == 0) || (o.shift == 0 && !o.back)) && wi o.piece 0 65535 && wi o.shift 0 23 && wi o.colour 1 16

/-- an option stands before another one -/
def optLt (a b : Opt) : Bool :=
  if a.piece ≠ b.piece then decide (a.piece ≠ 0 ∧ (b.piece = 0 ∨ a.piece < b.piece))
  else if a.shift ≠ b.shift then decide (a.shift < b.shift)
  else if a.back ≠ b.back then b.back
  else decide (a.colour < b.colour)

/-- a list of options may be that of a pane -/
def optsOK (l : List Opt) : Bool := decide (1 ≤ l.length ∧ l.length ≤ 256 ∧ ∀ i, i < l.length → optOK (nth l i) = true ∧ (0 < i → optLt (nth l (i - 1)) (nth l i) = true))
theorem optsOK_no {l : List Opt} (h : ¬ (1 ≤ l.length ∧ l.length ≤ 256)) : optsOK l = false := by
  unfold optsOK; simp; intro h1 h2; exact absurd ⟨h1, h2⟩ h
theorem optsOK_bad {l : List Opt} {i : Nat} (hi : i < l.length) (h : optOK (nth l i) = false ∨ (0 < i ∧ optLt (nth l (i - 1)) (nth l i) = false)) : optsOK l = false := by
  unfold optsOK; simp; intro _ _; refine ⟨i, hi, ?_⟩; rcases h with h | h <;> simp [h]
theorem optsOK_yes {l : List Opt} (h : 1 ≤ l.length ∧ l.length ≤ 256) (h' : ∀ i, i < l.length → optOK (nth l i) = true ∧ (0 < i → optLt (nth l (i - 1)) (nth l i) = true)) : optsOK l = true := by
  unfold optsOK; simp; exact ⟨h.1, h.2, fun i hi => by simpa using h' i hi⟩

/-- a rule that counts is as it must be -/
def cntOK (p : Prob) (r : Rl) : Bool := decide (r.hits.length = r.panes.length ∧ r.ok.length = 0 ∧ ∀ i, i < r.panes.length →
  wi (nth r.panes i) 0 ((p.panes.length : Int) - 1) = true ∧ (0 < i → nth r.panes (i - 1) < nth r.panes i) ∧ (nth r.hits i).length = (nth p.opts (nth r.panes i).toNat).length)
theorem cntOK_no {p : Prob} {r : Rl} (h : ¬ (r.hits.length = r.panes.length ∧ r.ok.length = 0)) : cntOK p r = false := by
  unfold cntOK; simp; intro h1 h2; exact absurd ⟨h1, by simp [h2]⟩ h
theorem cntOK_bad {p : Prob} {r : Rl} {i : Nat} (hi : i < r.panes.length) (h : wi (nth r.panes i) 0 ((p.panes.length : Int) - 1) = false ∨ (0 < i ∧ nth r.panes i ≤ nth r.panes (i - 1)) ∨ (nth r.hits i).length ≠ (nth p.opts (nth r.panes i).toNat).length) : cntOK p r = false := by
  unfold cntOK; rw [decide_eq_false_iff_not]; rintro ⟨_, _, h3⟩
  obtain ⟨a, b, c⟩ := h3 i hi
  rcases h with h | ⟨h, h'⟩ | h
  · rw [h] at a; cases a
  · have := b h; omega
  · exact h c
theorem cntOK_yes {p : Prob} {r : Rl} (h : r.hits.length = r.panes.length ∧ r.ok.length = 0) (h' : ∀ i, i < r.panes.length →
    wi (nth r.panes i) 0 ((p.panes.length : Int) - 1) = true ∧ (0 < i → nth r.panes (i - 1) < nth r.panes i) ∧ (nth r.hits i).length = (nth p.opts (nth r.panes i).toNat).length) : cntOK p r = true := by
  unfold cntOK; rw [decide_eq_true_iff]; exact ⟨h.1, h.2, h'⟩

/-- a rule of pairs is as it must be -/
def pairHead (r : Rl) : Bool := decide (r.panes.length = 2 ∧ r.hits.length = 0 ∧ r.lo = 0 ∧ r.hi = 0)
def pairOK (p : Prob) (r : Rl) : Bool := pairHead r && decide (nth r.panes 0 ≠ nth r.panes 1) && wi (nth r.panes 0) 0 ((p.panes.length : Int) - 1) && wi (nth r.panes 1) 0 ((p.panes.length : Int) - 1) &&
  decide (r.ok.length = (nth p.opts (nth r.panes 0).toNat).length) && decide (∀ i, i < r.ok.length → (nth r.ok i).length = (nth p.opts (nth r.panes 1).toNat).length)
theorem pairHead_iff {r : Rl} : pairHead r = true ↔ r.panes.length = 2 ∧ r.hits.length = 0 ∧ r.lo = 0 ∧ r.hi = 0 := by unfold pairHead; rw [decide_eq_true_iff]
theorem pairOK_iff {p : Prob} {r : Rl} : pairOK p r = true ↔ (r.panes.length = 2 ∧ r.hits.length = 0 ∧ r.lo = 0 ∧ r.hi = 0) ∧ nth r.panes 0 ≠ nth r.panes 1 ∧ wi (nth r.panes 0) 0 ((p.panes.length : Int) - 1) = true ∧ wi (nth r.panes 1) 0 ((p.panes.length : Int) - 1) = true ∧
    r.ok.length = (nth p.opts (nth r.panes 0).toNat).length ∧ ∀ i, i < r.ok.length → (nth r.ok i).length = (nth p.opts (nth r.panes 1).toNat).length := by
  unfold pairOK; simp only [Bool.and_eq_true, decide_eq_true_iff, pairHead_iff, and_assoc]
theorem pairOK_no {p : Prob} {r : Rl} (h : ¬ ((r.panes.length = 2 ∧ r.hits.length = 0 ∧ r.lo = 0 ∧ r.hi = 0) ∧ nth r.panes 0 ≠ nth r.panes 1 ∧ wi (nth r.panes 0) 0 ((p.panes.length : Int) - 1) = true ∧ wi (nth r.panes 1) 0 ((p.panes.length : Int) - 1) = true ∧
    r.ok.length = (nth p.opts (nth r.panes 0).toNat).length ∧ ∀ i, i < r.ok.length → (nth r.ok i).length = (nth p.opts (nth r.panes 1).toNat).length)) : pairOK p r = false := by
  rw [← Bool.not_eq_true, pairOK_iff]; exact h

/-- a rule is one -/
def ruleOK (p : Prob) (r : Rl) : Bool := (r.kind == 1 && cntOK p r) || (r.kind == 2 && pairOK p r)

/-- the items of the first k rules, each once where they do not decrease -/
def itemsTo (l : List Rl) : Nat → List Int
  | 0 => []
  | k + 1 => if k = 0 ∨ (nth l k).item ≠ (nth l (k - 1)).item then itemsTo l k ++ [(nth l k).item] else itemsTo l k
def items (p : Prob) : List Int := itemsTo p.rules p.rules.length
theorem itemsTo_len (l : List Rl) : ∀ k, (itemsTo l k).length ≤ k
  | 0 => Nat.le_refl _
  | k + 1 => by unfold itemsTo; have := itemsTo_len l k; split <;> simp <;> omega

/-- the problem is valid -/
def paneOK (p : Prob) (i : Nat) : Bool := wi (nth p.panes i) 1 64 && decide (0 < i → nth p.panes (i - 1) < nth p.panes i) && optsOK (nth p.opts i)
def ruleAtOK (p : Prob) (i : Nat) : Bool := wi (nth p.rules i).item 1 65535 && decide (0 < i → (nth p.rules (i - 1)).item ≤ (nth p.rules i).item) && ruleOK p (nth p.rules i)
def validP (p : Prob) : Bool := decide (p.opts.length = p.panes.length ∧ p.rules.length ≤ 256) && decide (∀ i, i < p.panes.length → paneOK p i = true) && decide (∀ i, i < p.rules.length → ruleAtOK p i = true) && decide ((items p).length ≤ 16)
theorem validP_iff {p : Prob} : validP p = true ↔ (p.opts.length = p.panes.length ∧ p.rules.length ≤ 256) ∧ (∀ i, i < p.panes.length → paneOK p i = true) ∧ (∀ i, i < p.rules.length → ruleAtOK p i = true) ∧ (items p).length ≤ 16 := by
  unfold validP; simp only [Bool.and_eq_true, decide_eq_true_iff, and_assoc]
theorem paneOK_iff {p : Prob} {i : Nat} : paneOK p i = true ↔ wi (nth p.panes i) 1 64 = true ∧ (0 < i → nth p.panes (i - 1) < nth p.panes i) ∧ optsOK (nth p.opts i) = true := by
  unfold paneOK; simp only [Bool.and_eq_true, decide_eq_true_iff, and_assoc]
theorem ruleAtOK_iff {p : Prob} {i : Nat} : ruleAtOK p i = true ↔ wi (nth p.rules i).item 1 65535 = true ∧ (0 < i → (nth p.rules (i - 1)).item ≤ (nth p.rules i).item) ∧ ruleOK p (nth p.rules i) = true := by
  unfold ruleAtOK; simp only [Bool.and_eq_true, decide_eq_true_iff, and_assoc]
theorem valid_no1 {p : Prob} (h : ¬ (p.opts.length = p.panes.length ∧ p.rules.length ≤ 256)) : validP p = false := by
  rw [← Bool.not_eq_true, validP_iff]; exact fun h' => h h'.1
theorem valid_no2 {p : Prob} {i : Nat} (hi : i < p.panes.length) (h : wi (nth p.panes i) 1 64 = false ∨ (0 < i ∧ nth p.panes i ≤ nth p.panes (i - 1)) ∨ optsOK (nth p.opts i) = false) : validP p = false := by
  rw [← Bool.not_eq_true, validP_iff]; rintro ⟨_, h2, _⟩
  obtain ⟨a, b, c⟩ := paneOK_iff.1 (h2 i hi)
  rcases h with h | ⟨h, h'⟩ | h
  · rw [h] at a; cases a
  · have := b h; omega
  · rw [h] at c; cases c
theorem valid_no3 {p : Prob} {i : Nat} (hi : i < p.rules.length) (h : wi (nth p.rules i).item 1 65535 = false ∨ (0 < i ∧ (nth p.rules i).item < (nth p.rules (i - 1)).item) ∨ ruleOK p (nth p.rules i) = false) : validP p = false := by
  rw [← Bool.not_eq_true, validP_iff]; rintro ⟨_, _, h2, _⟩
  obtain ⟨a, b, c⟩ := ruleAtOK_iff.1 (h2 i hi)
  rcases h with h | ⟨h, h'⟩ | h
  · rw [h] at a; cases a
  · have := b h; omega
  · rw [h] at c; cases c
theorem valid_end {p : Prob} (h1 : p.opts.length = p.panes.length ∧ p.rules.length ≤ 256) (h2 : ∀ i, i < p.panes.length → paneOK p i = true) (h3 : ∀ i, i < p.rules.length → ruleAtOK p i = true) : validP p = decide ((items p).length ≤ 16) := by
  rw [Bool.eq_iff_iff, validP_iff, decide_eq_true_iff]; exact ⟨fun h => h.2.2.2, fun h => ⟨h1, h2, h3, h⟩⟩
theorem rising_ge {l : List Int} {lo : Int} (h : ∀ i, i < l.length → lo ≤ nth l i ∧ (0 < i → nth l (i - 1) < nth l i)) : ∀ i, i < l.length → lo + i ≤ nth l i
  | 0, hi => by have := (h 0 hi).1; simpa using this
  | i + 1, hi => by have h1 := rising_ge h i (by omega); have h2 := (h (i + 1) hi).2 (by omega); simp at h2; omega
theorem valid_panes {p : Prob} (h : ∀ i, i < p.panes.length → paneOK p i = true) : p.panes.length ≤ 64 := by
  rcases Nat.lt_or_ge 64 p.panes.length with hlt | hle
  · have := rising_ge (l := p.panes) (lo := 1) (fun i hi => ⟨(wi_iff.1 (paneOK_iff.1 (h i hi)).1).1, (paneOK_iff.1 (h i hi)).2.1⟩) 64 hlt
    have h2 := (wi_iff.1 (paneOK_iff.1 (h 64 hlt)).1).2
    omega
  · exact hle

end Go.Proofs.Ytmpkbolabdmkkaa

/- WHAT MEMORY HOLDS: the words that say that a Go value reads as plain data, and that they stay true while other memory is written. -/
namespace Go.Proofs.Ytmpkbolabdmkkaa
open Go.RowKit

/-- cell j of the row that begins at a -/
def IsInts (w : World) (v : Value) (l : List Int) : Prop :=
  ∃ a c, v = .slice a l.length c ∧ l.length ≤ 17592186044416 ∧ ∀ i, i < l.length → ∃ b o, a = some ⟨b, o, none⟩ ∧ b < w.heap.size ∧ w.cell? ⟨b, o + i, none⟩ = some (.int .i64 (nth l i))

def IsBools (w : World) (v : Value) (l : List Bool) : Prop :=
  ∃ a c, v = .slice a l.length c ∧ l.length ≤ 140737488355328 ∧ ∀ i, i < l.length → ∃ b o, a = some ⟨b, o, none⟩ ∧ b < w.heap.size ∧ w.cell? ⟨b, o + i, none⟩ = some (.bool (nth l i))

def OptAt (w : World) (b o : Nat) (x : Opt) : Prop :=
  w.cell? ⟨b, o, none⟩ = some (.int .i64 x.piece) ∧ w.cell? ⟨b, o + 1, none⟩ = some (.int .i64 x.shift) ∧ w.cell? ⟨b, o + 2, none⟩ = some (.bool x.back) ∧ w.cell? ⟨b, o + 3, none⟩ = some (.int .i64 x.colour)

def IsOpts (w : World) (v : Value) (l : List Opt) : Prop :=
  ∃ a c, v = .slice a l.length c ∧ l.length ≤ 4398046511104 ∧ ∀ i, i < l.length → ∃ b o, a = some ⟨b, o, none⟩ ∧ b < w.heap.size ∧ OptAt w b (o + i * 4) (nth l i)

def IsOptss (w : World) (v : Value) (l : List (List Opt)) : Prop :=
  ∃ a c, v = .slice a l.length c ∧ l.length ≤ 5864062014805 ∧ ∀ i, i < l.length → ∃ b o, a = some ⟨b, o, none⟩ ∧ b < w.heap.size ∧ ∃ u, w.cell? ⟨b, o + i, none⟩ = some u ∧ IsOpts w u (nth l i)

def IsBoolss (w : World) (v : Value) (l : List (List Bool)) : Prop :=
  ∃ a c, v = .slice a l.length c ∧ l.length ≤ 5864062014805 ∧ ∀ i, i < l.length → ∃ b o, a = some ⟨b, o, none⟩ ∧ b < w.heap.size ∧ ∃ u, w.cell? ⟨b, o + i, none⟩ = some u ∧ IsBools w u (nth l i)

/-- seven cells hold a rule -/
def RlAt (w : World) (b o : Nat) (r : Rl) : Prop :=
  ∃ u2 u3 u6, w.cell? ⟨b, o, none⟩ = some (.int .i64 r.item) ∧ w.cell? ⟨b, o + 1, none⟩ = some (.int .i64 r.kind) ∧ w.cell? ⟨b, o + 2, none⟩ = some u2 ∧ w.cell? ⟨b, o + 3, none⟩ = some u3 ∧
    w.cell? ⟨b, o + 4, none⟩ = some (.int .i64 r.lo) ∧ w.cell? ⟨b, o + 5, none⟩ = some (.int .i64 r.hi) ∧ w.cell? ⟨b, o + 6, none⟩ = some u6 ∧ IsInts w u2 r.panes ∧ IsBoolss w u3 r.hits ∧ IsBoolss w u6 r.ok

def IsRules (w : World) (v : Value) (l : List Rl) : Prop :=
  ∃ a c, v = .slice a l.length c ∧ l.length ≤ 1400000000000 ∧ ∀ i, i < l.length → ∃ b o, a = some ⟨b, o, none⟩ ∧ b < w.heap.size ∧ RlAt w b (o + i * 7) (nth l i)

/-- the three slices of a problem -/
structure IsProb (w : World) (v0 v1 v2 : Value) (p : Prob) : Prop where
  panes : IsInts w v0 p.panes
  opts : IsOptss w v1 p.opts
  rules : IsRules w v2 p.rules

/-- the three slices of a rule -/
structure IsRl (w : World) (u2 u3 u6 : Value) (r : Rl) : Prop where
  panes : IsInts w u2 r.panes
  hits : IsBoolss w u3 r.hits
  ok : IsBoolss w u6 r.ok

section below
variable {w w' : World} (hb : Below w.heap.size w w')
include hb
theorem IsInts.below {v : Value} {l : List Int} (h : IsInts w v l) : IsInts w' v l := by
  obtain ⟨a, c, hv, hl, h⟩ := h
  refine ⟨a, c, hv, hl, fun i hi => ?_⟩
  obtain ⟨b, o, ha, hlt, hc⟩ := h i hi
  exact ⟨b, o, ha, Nat.lt_of_lt_of_le hlt hb.size, (hb.cell (p := ⟨b, o + i, none⟩) hlt).trans hc⟩
theorem IsBools.below {v : Value} {l : List Bool} (h : IsBools w v l) : IsBools w' v l := by
  obtain ⟨a, c, hv, hl, h⟩ := h
  refine ⟨a, c, hv, hl, fun i hi => ?_⟩
  obtain ⟨b, o, ha, hlt, hc⟩ := h i hi
  exact ⟨b, o, ha, Nat.lt_of_lt_of_le hlt hb.size, (hb.cell (p := ⟨b, o + i, none⟩) hlt).trans hc⟩
theorem OptAt.below {b o : Nat} {x : Opt} (hlt : b < w.heap.size) (h : OptAt w b o x) : OptAt w' b o x :=
  ⟨(hb.cell (p := ⟨b, o, none⟩) hlt).trans h.1, (hb.cell (p := ⟨b, o + 1, none⟩) hlt).trans h.2.1, (hb.cell (p := ⟨b, o + 2, none⟩) hlt).trans h.2.2.1, (hb.cell (p := ⟨b, o + 3, none⟩) hlt).trans h.2.2.2⟩
theorem IsOpts.below {v : Value} {l : List Opt} (h : IsOpts w v l) : IsOpts w' v l := by
  obtain ⟨a, c, hv, hl, h⟩ := h
  refine ⟨a, c, hv, hl, fun i hi => ?_⟩
  obtain ⟨b, o, ha, hlt, hc⟩ := h i hi
  exact ⟨b, o, ha, Nat.lt_of_lt_of_le hlt hb.size, OptAt.below hb hlt hc⟩
theorem IsOptss.below {v : Value} {l : List (List Opt)} (h : IsOptss w v l) : IsOptss w' v l := by
  obtain ⟨a, c, hv, hl, h⟩ := h
  refine ⟨a, c, hv, hl, fun i hi => ?_⟩
  obtain ⟨b, o, ha, hlt, u, hc, hu⟩ := h i hi
  exact ⟨b, o, ha, Nat.lt_of_lt_of_le hlt hb.size, u, (hb.cell (p := ⟨b, o + i, none⟩) hlt).trans hc, IsOpts.below hb hu⟩
theorem IsBoolss.below {v : Value} {l : List (List Bool)} (h : IsBoolss w v l) : IsBoolss w' v l := by
  obtain ⟨a, c, hv, hl, h⟩ := h
  refine ⟨a, c, hv, hl, fun i hi => ?_⟩
  obtain ⟨b, o, ha, hlt, u, hc, hu⟩ := h i hi
  exact ⟨b, o, ha, Nat.lt_of_lt_of_le hlt hb.size, u, (hb.cell (p := ⟨b, o + i, none⟩) hlt).trans hc, IsBools.below hb hu⟩
theorem RlAt.below {b o : Nat} {x : Rl} (hlt : b < w.heap.size) (h : RlAt w b o x) : RlAt w' b o x := by
  obtain ⟨u2, u3, u6, h0, h1, h2, h3, h4, h5, h6, i2, i3, i6⟩ := h
  exact ⟨u2, u3, u6, (hb.cell (p := ⟨b, o, none⟩) hlt).trans h0, (hb.cell (p := ⟨b, o + 1, none⟩) hlt).trans h1, (hb.cell (p := ⟨b, o + 2, none⟩) hlt).trans h2, (hb.cell (p := ⟨b, o + 3, none⟩) hlt).trans h3,
    (hb.cell (p := ⟨b, o + 4, none⟩) hlt).trans h4, (hb.cell (p := ⟨b, o + 5, none⟩) hlt).trans h5, (hb.cell (p := ⟨b, o + 6, none⟩) hlt).trans h6, i2.below hb, i3.below hb, i6.below hb⟩
theorem IsRules.below {v : Value} {l : List Rl} (h : IsRules w v l) : IsRules w' v l := by
  obtain ⟨a, c, hv, hl, h⟩ := h
  refine ⟨a, c, hv, hl, fun i hi => ?_⟩
  obtain ⟨b, o, ha, hlt, hc⟩ := h i hi
  exact ⟨b, o, ha, Nat.lt_of_lt_of_le hlt hb.size, RlAt.below hb hlt hc⟩
theorem IsProb.below {v0 v1 v2 : Value} {p : Prob} (h : IsProb w v0 v1 v2 p) : IsProb w' v0 v1 v2 p := ⟨h.panes.below hb, h.opts.below hb, h.rules.below hb⟩
theorem IsRl.below {v0 v1 v2 : Value} {p : Rl} (h : IsRl w v0 v1 v2 p) : IsRl w' v0 v1 v2 p := ⟨h.panes.below hb, h.hits.below hb, h.ok.below hb⟩
end below

theorem below_drewN {B : Nat} {a w : World} (h : Below B a w) (n : Nat) : Below B a (w.drewN n) := ⟨h.os, h.tape, h.output, h.size, h.block⟩
theorem below_alloc1 (w : World) (o : Obj) : Below w.heap.size w (w.alloc o) := (Below.refl _ _).alloc (Nat.le_refl _) _

theorem bcell {W w1 : World} (hb : Below W.heap.size W w1) : (∀ b o, b < W.heap.size → w1.cell? ⟨b, o, none⟩ = W.cell? ⟨b, o, none⟩) ∧ (∀ b o, b < W.heap.size → w1.frozen? ⟨b, o, none⟩ = W.frozen? ⟨b, o, none⟩) :=
  ⟨fun b o h => hb.cell (p := ⟨b, o, none⟩) h, fun b o h => hb.frozen (p := ⟨b, o, none⟩) h⟩

/-- A world in which whatever lay in W lies as it lay. -/
structure Later (W : World) where
  w : World
  h : Below W.heap.size W w

instance {W : World} : Nonempty (Later W) := ⟨⟨W, Below.refl _ _⟩⟩

/-- the world itself -/
def Later.now (W : World) : Later W := ⟨W, Below.refl _ _⟩
theorem Later.cell {W : World} {b o : Nat} {v : Value} (hb : b < W.heap.size) (hc : W.cell? ⟨b, o, none⟩ = some v) : ∀ x : Later W, x.w.cell? ⟨b, o, none⟩ = some v :=
  fun x => (x.h.cell (p := ⟨b, o, none⟩) hb).trans hc
theorem Later.frozen {W : World} {b o : Nat} {v : Bool} (hb : b < W.heap.size) (hc : W.frozen? ⟨b, o, none⟩ = v) : ∀ x : Later W, x.w.frozen? ⟨b, o, none⟩ = v :=
  fun x => (x.h.frozen (p := ⟨b, o, none⟩) hb).trans hc
theorem Later.size {W : World} {b : Nat} (hb : b < W.heap.size) : ∀ x : Later W, b < x.w.heap.size := fun x => Nat.lt_of_lt_of_le hb x.h.size
theorem Later.step {W w' : World} (x : Later W) (hb : Below x.w.heap.size x.w w') : ∃ y : Later W, w' = y.w := ⟨⟨w', x.h.trans (hb.mono x.h.size)⟩, rfl⟩
theorem Later.drew {W : World} (x : Later W) (n : Nat) : ∃ y : Later W, x.w.drewN n = y.w := ⟨⟨_, below_drewN x.h n⟩, rfl⟩
theorem Later.down {W W1 : World} (y : Later W1) (hb : Below W.heap.size W W1) : ∃ z : Later W, y.w = z.w := ⟨⟨y.w, hb.trans (y.h.mono hb.size)⟩, rfl⟩
/-- a later world of a later world -/
def Later.up {W : World} (x : Later W) (z : Later x.w) : Later W := ⟨z.w, x.h.trans (z.h.mono x.h.size)⟩

/-- what is later than a world that is later than W -/
def Later.re {W W2 : World} (hb : Below W.heap.size W W2) (z : Later W2) : Later W := ⟨z.w, hb.trans (z.h.mono hb.size)⟩
theorem Later.cells {W W2 : World} (hb : Below W.heap.size W W2) {b o : Nat} {v : Value} (h : ∀ y : Later W, y.w.cell? ⟨b, o, none⟩ = some v) : ∀ z : Later W2, z.w.cell? ⟨b, o, none⟩ = some v := fun z => h (z.re hb)
theorem Later.sizes {W W2 : World} (hb : Below W.heap.size W W2) {b : Nat} (h : ∀ y : Later W, b < y.w.heap.size) : ∀ z : Later W2, b < z.w.heap.size := fun z => h (z.re hb)

/-- HOW A CALL ENDS that hands back v and leaves all old memory as it lay -/
def Ends (W : World) (v : Value) (e : Ending) (w' : World) : Prop := e = .returned v ∧ ∃ y : Later W, w' = y.w

/-- a region that draws its order, whose operations read old memory and whose callees make memory of their own alone -/
theorem wp_region_later {P : Program} {id : Nat} {Q : Exit → Act → World → Prop} {a : Act} {W : World} {l : List Oper} (x : Later W) (hm : P.follows .mixedOrders = true) (hB : Region.lexB .any l.toArray = true)
    (h : wpQuiet P l.toArray (fun w' => ∃ y : Later W, w' = y.w) (fun a' => ∀ w', (∃ y : Later W, w' = y.w) → Q .normal a' w') l a) : (Code.region id l.toArray true).wp P Q a x.w :=
  wp_region_quiet (C := fun w' => ∃ y : Later W, w' = y.w) hm hB (x.drew 1) (by simpa using h)

/-- a callee that leaves the world alone, met inside such a region -/
theorem calls_same {P : Program} {f : FuncId} {args : Array Value} {W : World} {x : Later W} {v : Value}
    (h : Calls P f args x.w fun e w' => e = .returned v ∧ x.w = w') : Calls P f args x.w fun e w' => e = .returned v ∧ ∃ y : Later W, w' = y.w :=
  h.mono fun _ _ ⟨he, hb⟩ => ⟨he, x, hb.symm⟩
theorem calls_ends {P : Program} {f : FuncId} {args : Array Value} {W : World} {x : Later W} {v : Value}
    (h : Calls P f args x.w (Ends W v)) : Calls P f args x.w fun e w' => e = .returned v ∧ ∃ y : Later W, w' = y.w := h

/-- parameters laid in memory of their own: three, four, seven cells -/
theorem enter3 {W : World} (x : Later W) (v0 v1 v2 : Value) (T : TypeId) : ∃ (W1 : World) (x1 : Later W1), x.w.alloc (.cells #[v0, v1, v2] T) = x1.w ∧ Below W.heap.size W W1 ∧ (∀ y : Later W1, x.w.heap.size < y.w.heap.size) ∧
    (∀ y : Later W1, y.w.cell? ⟨x.w.heap.size, 0, none⟩ = some v0) ∧ (∀ y : Later W1, y.w.cell? ⟨x.w.heap.size, 1, none⟩ = some v1) ∧ (∀ y : Later W1, y.w.cell? ⟨x.w.heap.size, 2, none⟩ = some v2) := by
  have hs : x.w.heap.size < (x.w.alloc (.cells #[v0, v1, v2] T)).heap.size := by simp
  refine ⟨_, Later.now _, rfl, x.h.alloc x.h.size _, Later.size hs, Later.cell hs ?_, Later.cell hs ?_, Later.cell hs ?_⟩ <;> simp
theorem enter4 {W : World} (x : Later W) (v0 v1 v2 v3 : Value) (T : TypeId) : ∃ (W1 : World) (x1 : Later W1), x.w.alloc (.cells #[v0, v1, v2, v3] T) = x1.w ∧ Below W.heap.size W W1 ∧ (∀ y : Later W1, x.w.heap.size < y.w.heap.size) ∧
    (∀ y : Later W1, y.w.cell? ⟨x.w.heap.size, 0, none⟩ = some v0) ∧ (∀ y : Later W1, y.w.cell? ⟨x.w.heap.size, 1, none⟩ = some v1) ∧ (∀ y : Later W1, y.w.cell? ⟨x.w.heap.size, 2, none⟩ = some v2) ∧ (∀ y : Later W1, y.w.cell? ⟨x.w.heap.size, 3, none⟩ = some v3) := by
  have hs : x.w.heap.size < (x.w.alloc (.cells #[v0, v1, v2, v3] T)).heap.size := by simp
  refine ⟨_, Later.now _, rfl, x.h.alloc x.h.size _, Later.size hs, Later.cell hs ?_, Later.cell hs ?_, Later.cell hs ?_, Later.cell hs ?_⟩ <;> simp
theorem enter7 {W : World} (x : Later W) (v0 v1 v2 v3 v4 v5 v6 : Value) (T : TypeId) : ∃ (W1 : World) (x1 : Later W1), x.w.alloc (.cells #[v0, v1, v2, v3, v4, v5, v6] T) = x1.w ∧ Below W.heap.size W W1 ∧ (∀ y : Later W1, x.w.heap.size < y.w.heap.size) ∧
    (∀ y : Later W1, y.w.cell? ⟨x.w.heap.size, 0, none⟩ = some v0) ∧ (∀ y : Later W1, y.w.cell? ⟨x.w.heap.size, 1, none⟩ = some v1) ∧ (∀ y : Later W1, y.w.cell? ⟨x.w.heap.size, 2, none⟩ = some v2) ∧ (∀ y : Later W1, y.w.cell? ⟨x.w.heap.size, 3, none⟩ = some v3) ∧
    (∀ y : Later W1, y.w.cell? ⟨x.w.heap.size, 4, none⟩ = some v4) ∧ (∀ y : Later W1, y.w.cell? ⟨x.w.heap.size, 5, none⟩ = some v5) ∧ (∀ y : Later W1, y.w.cell? ⟨x.w.heap.size, 6, none⟩ = some v6) := by
  have hs : x.w.heap.size < (x.w.alloc (.cells #[v0, v1, v2, v3, v4, v5, v6] T)).heap.size := by simp
  refine ⟨_, Later.now _, rfl, x.h.alloc x.h.size _, Later.size hs, Later.cell hs ?_, Later.cell hs ?_, Later.cell hs ?_, Later.cell hs ?_, Later.cell hs ?_, Later.cell hs ?_, Later.cell hs ?_⟩ <;> simp

theorem enter37 {W : World} (x : Later W) (u0 u1 u2 v0 v1 v2 v3 v4 v5 v6 : Value) (S T : TypeId) : ∃ (W1 : World) (x1 : Later W1), (x.w.alloc (.cells #[u0, u1, u2] S)).alloc (.cells #[v0, v1, v2, v3, v4, v5, v6] T) = x1.w ∧ Below W.heap.size W W1 ∧
    ((∀ y : Later W1, x.w.heap.size < y.w.heap.size) ∧ (∀ y : Later W1, x.w.heap.size + 1 < y.w.heap.size)) ∧
    ((∀ y : Later W1, y.w.cell? ⟨x.w.heap.size, 0, none⟩ = some u0) ∧ (∀ y : Later W1, y.w.cell? ⟨x.w.heap.size, 1, none⟩ = some u1) ∧ (∀ y : Later W1, y.w.cell? ⟨x.w.heap.size, 2, none⟩ = some u2)) ∧
    (∀ y : Later W1, y.w.cell? ⟨x.w.heap.size + 1, 0, none⟩ = some v0) ∧ (∀ y : Later W1, y.w.cell? ⟨x.w.heap.size + 1, 1, none⟩ = some v1) ∧ (∀ y : Later W1, y.w.cell? ⟨x.w.heap.size + 1, 2, none⟩ = some v2) ∧ (∀ y : Later W1, y.w.cell? ⟨x.w.heap.size + 1, 3, none⟩ = some v3) ∧
    (∀ y : Later W1, y.w.cell? ⟨x.w.heap.size + 1, 4, none⟩ = some v4) ∧ (∀ y : Later W1, y.w.cell? ⟨x.w.heap.size + 1, 5, none⟩ = some v5) ∧ (∀ y : Later W1, y.w.cell? ⟨x.w.heap.size + 1, 6, none⟩ = some v6) := by
  have hs : x.w.heap.size < ((x.w.alloc (.cells #[u0, u1, u2] S)).alloc (.cells #[v0, v1, v2, v3, v4, v5, v6] T)).heap.size := by simp; omega
  have hs' : x.w.heap.size + 1 < ((x.w.alloc (.cells #[u0, u1, u2] S)).alloc (.cells #[v0, v1, v2, v3, v4, v5, v6] T)).heap.size := by simp
  have f1 : ∀ i, ((x.w.alloc (.cells #[u0, u1, u2] S)).alloc (.cells #[v0, v1, v2, v3, v4, v5, v6] T)).cell? ⟨x.w.heap.size, i, none⟩ = #[u0, u1, u2][i]? := fun i => (World.cell?_alloc_past _ _ i (by simp)).trans (World.cell?_alloc_at _ S _ i rfl)
  have f2 : ∀ i, ((x.w.alloc (.cells #[u0, u1, u2] S)).alloc (.cells #[v0, v1, v2, v3, v4, v5, v6] T)).cell? ⟨x.w.heap.size + 1, i, none⟩ = #[v0, v1, v2, v3, v4, v5, v6][i]? := fun i => World.cell?_alloc_at _ T _ i (by simp)
  exact ⟨_, Later.now _, rfl, (x.h.alloc x.h.size _).alloc (by have := x.h.size; simp; omega) _, ⟨Later.size hs, Later.size hs'⟩, ⟨Later.cell hs (f1 0), Later.cell hs (f1 1), Later.cell hs (f1 2)⟩, Later.cell hs' (f2 0), Later.cell hs' (f2 1), Later.cell hs' (f2 2), Later.cell hs' (f2 3), Later.cell hs' (f2 4), Later.cell hs' (f2 5), Later.cell hs' (f2 6)⟩

section opened
variable {W : World}
/-- opened: the slice's form, and of each element what its cells hold in every later world -/
theorem IsInts.opened {v : Value} {l : List Int} (h : IsInts W v l) : ∃ a c, v = .slice a l.length c ∧ l.length ≤ 17592186044416 ∧ Hid (∀ i, i < l.length → ∃ b o, a = some ⟨b, o, none⟩ ∧ (∀ x : Later W, b < x.w.heap.size) ∧ ∀ x : Later W, x.w.cell? ⟨b, o + i, none⟩ = some (.int .i64 (nth l i))) := by
  obtain ⟨a, c, hv, hl, h⟩ := h
  refine ⟨a, c, hv, hl, fun i hi => ?_⟩
  obtain ⟨b, o, ha, hb, hc⟩ := h i hi
  exact ⟨b, o, ha, Later.size hb, Later.cell hb hc⟩
theorem IsBools.opened {v : Value} {l : List Bool} (h : IsBools W v l) : ∃ a c, v = .slice a l.length c ∧ l.length ≤ 140737488355328 ∧ Hid (∀ i, i < l.length → ∃ b o, a = some ⟨b, o, none⟩ ∧ (∀ x : Later W, b < x.w.heap.size) ∧ ∀ x : Later W, x.w.cell? ⟨b, o + i, none⟩ = some (.bool (nth l i))) := by
  obtain ⟨a, c, hv, hl, h⟩ := h
  refine ⟨a, c, hv, hl, fun i hi => ?_⟩
  obtain ⟨b, o, ha, hb, hc⟩ := h i hi
  exact ⟨b, o, ha, Later.size hb, Later.cell hb hc⟩
theorem IsOpts.opened {v : Value} {l : List Opt} (h : IsOpts W v l) : ∃ a c, v = .slice a l.length c ∧ l.length ≤ 4398046511104 ∧ Hid (∀ i, i < l.length → ∃ b o, a = some ⟨b, o, none⟩ ∧ (∀ x : Later W, b < x.w.heap.size) ∧
    (∀ x : Later W, x.w.cell? ⟨b, o + i * 4, none⟩ = some (.int .i64 (nth l i).piece)) ∧ (∀ x : Later W, x.w.cell? ⟨b, o + i * 4 + 1, none⟩ = some (.int .i64 (nth l i).shift)) ∧
    (∀ x : Later W, x.w.cell? ⟨b, o + i * 4 + 2, none⟩ = some (.bool (nth l i).back)) ∧ (∀ x : Later W, x.w.cell? ⟨b, o + i * 4 + 3, none⟩ = some (.int .i64 (nth l i).colour))) := by
  obtain ⟨a, c, hv, hl, h⟩ := h
  refine ⟨a, c, hv, hl, fun i hi => ?_⟩
  obtain ⟨b, o, ha, hb, h0, h1, h2, h3⟩ := h i hi
  exact ⟨b, o, ha, Later.size hb, Later.cell hb h0, Later.cell hb h1, Later.cell hb h2, Later.cell hb h3⟩
theorem IsOptss.opened {v : Value} {l : List (List Opt)} (h : IsOptss W v l) : ∃ a c, v = .slice a l.length c ∧ l.length ≤ 5864062014805 ∧ Hid (∀ i, i < l.length → ∃ b o, a = some ⟨b, o, none⟩ ∧ (∀ x : Later W, b < x.w.heap.size) ∧
    ∃ u, (∀ x : Later W, x.w.cell? ⟨b, o + i, none⟩ = some u) ∧ IsOpts W u (nth l i)) := by
  obtain ⟨a, c, hv, hl, h⟩ := h
  refine ⟨a, c, hv, hl, fun i hi => ?_⟩
  obtain ⟨b, o, ha, hb, u, hc, hu⟩ := h i hi
  exact ⟨b, o, ha, Later.size hb, u, Later.cell hb hc, hu⟩
theorem IsBoolss.opened {v : Value} {l : List (List Bool)} (h : IsBoolss W v l) : ∃ a c, v = .slice a l.length c ∧ l.length ≤ 5864062014805 ∧ Hid (∀ i, i < l.length → ∃ b o, a = some ⟨b, o, none⟩ ∧ (∀ x : Later W, b < x.w.heap.size) ∧
    ∃ u, (∀ x : Later W, x.w.cell? ⟨b, o + i, none⟩ = some u) ∧ IsBools W u (nth l i)) := by
  obtain ⟨a, c, hv, hl, h⟩ := h
  refine ⟨a, c, hv, hl, fun i hi => ?_⟩
  obtain ⟨b, o, ha, hb, u, hc, hu⟩ := h i hi
  exact ⟨b, o, ha, Later.size hb, u, Later.cell hb hc, hu⟩
theorem IsRules.opened {v : Value} {l : List Rl} (h : IsRules W v l) : ∃ a c, v = .slice a l.length c ∧ l.length ≤ 1400000000000 ∧ Hid (∀ i, i < l.length → ∃ b o, a = some ⟨b, o, none⟩ ∧ (∀ x : Later W, b < x.w.heap.size) ∧ ∃ u2 u3 u6,
    (∀ x : Later W, x.w.cell? ⟨b, o + i * 7, none⟩ = some (.int .i64 (nth l i).item)) ∧ (∀ x : Later W, x.w.cell? ⟨b, o + i * 7 + 1, none⟩ = some (.int .i64 (nth l i).kind)) ∧
    (∀ x : Later W, x.w.cell? ⟨b, o + i * 7 + 2, none⟩ = some u2) ∧ (∀ x : Later W, x.w.cell? ⟨b, o + i * 7 + 3, none⟩ = some u3) ∧
    (∀ x : Later W, x.w.cell? ⟨b, o + i * 7 + 4, none⟩ = some (.int .i64 (nth l i).lo)) ∧ (∀ x : Later W, x.w.cell? ⟨b, o + i * 7 + 5, none⟩ = some (.int .i64 (nth l i).hi)) ∧
    (∀ x : Later W, x.w.cell? ⟨b, o + i * 7 + 6, none⟩ = some u6) ∧ IsRl W u2 u3 u6 (nth l i)) := by
  obtain ⟨a, c, hv, hl, h⟩ := h
  refine ⟨a, c, hv, hl, fun i hi => ?_⟩
  obtain ⟨b, o, ha, hb, u2, u3, u6, h0, h1, h2, h3, h4, h5, h6, i2, i3, i6⟩ := h i hi
  exact ⟨b, o, ha, Later.size hb, u2, u3, u6, Later.cell hb h0, Later.cell hb h1, Later.cell hb h2, Later.cell hb h3, Later.cell hb h4, Later.cell hb h5, Later.cell hb h6, i2, i3, i6⟩
end opened

/-- A later world of W, in which, besides, whatever lay in x lies as it lay. -/
structure Since {W : World} (x : Later W) where
  y : Later W
  k : Below x.w.heap.size x.w y.w
instance {W : World} {x : Later W} : Nonempty (Since x) := ⟨⟨x, Below.refl _ _⟩⟩
theorem Since.cells {W : World} {x : Later W} {b o : Nat} {v : Value} (h : ∀ z : Later x.w, z.w.cell? ⟨b, o, none⟩ = some v) : ∀ s : Since x, s.y.w.cell? ⟨b, o, none⟩ = some v := fun s => h ⟨s.y.w, s.k⟩
theorem Since.sizes {W : World} {x : Later W} {b : Nat} (h : ∀ z : Later x.w, b < z.w.heap.size) : ∀ s : Since x, b < s.y.w.heap.size := fun s => h ⟨s.y.w, s.k⟩
theorem wp_region_since {P : Program} {id : Nat} {Q : Exit → Act → World → Prop} {a : Act} {W : World} {l : List Oper} (x : Later W) (hm : P.follows .mixedOrders = true) (hB : Region.lexB .any l.toArray = true)
    (h : wpQuiet P l.toArray (fun w' => ∃ s : Since x, w' = s.y.w) (fun a' => ∀ w', (∃ s : Since x, w' = s.y.w) → Q .normal a' w') l a) : (Code.region id l.toArray true).wp P Q a x.w :=
  wp_region_quiet (C := fun w' => ∃ s : Since x, w' = s.y.w) hm hB ⟨⟨⟨_, below_drewN x.h 1⟩, below_drewN (Below.refl _ _) 1⟩, rfl⟩ (by simpa using h)
theorem calls_since {P : Program} {f : FuncId} {args : Array Value} {W : World} {x : Later W} {s : Since x} {v : Value}
    (h : ∀ z : Later x.w, Calls P f args z.w (Ends x.w v)) : Calls P f args s.y.w fun e w' => e = .returned v ∧ ∃ s' : Since x, w' = s'.y.w :=
  (h ⟨s.y.w, s.k⟩).mono fun _ _ ⟨he, z, hz⟩ => ⟨he, ⟨x.up z, z.h⟩, hz⟩
theorem calls_same_since {P : Program} {f : FuncId} {args : Array Value} {W : World} {x : Later W} {s : Since x} {v : Value}
    (h : Calls P f args s.y.w fun e w' => e = .returned v ∧ s.y.w = w') : Calls P f args s.y.w fun e w' => e = .returned v ∧ ∃ s' : Since x, w' = s'.y.w :=
  h.mono fun _ _ ⟨he, hb⟩ => ⟨he, s, hb.symm⟩
/-- a callee's contract at the world that stands: what lay in it lies -/
theorem calls_on {P : Program} {f : FuncId} {args : Array Value} {W : World} (x : Later W) {v : Value} (h : Calls P f args x.w (Ends x.w v)) :
    Calls P f args x.w fun e w' => e = .returned v ∧ ∃ y : Later W, w' = y.w ∧ Below x.w.heap.size x.w y.w :=
  h.mono fun _ _ ⟨he, z, hz⟩ => ⟨he, x.up z, hz, z.h⟩
theorem owns_later {w w' : World} {B : Nat} {e : TypeId} {sz n : Nat} {v : Value} {xs : List Value} (h : w.ownsRow B e sz v n xs) (hb : Below w.heap.size w w') : w'.ownsRow B e sz v n xs :=
  h.kept (row := none) ⟨hb.os, hb.tape, hb.output, hb.size, fun k hk _ => hb.block k hk⟩ (by cases v.ownBlock <;> simp)

/-! ### Rows that a call makes and appends to -/
theorem Later.grown {W w' : World} {row : Option Nat} (x : Later W) (hg : x.w.grownBy w' row) (hr : ∀ k, row = some k → W.heap.size ≤ k) : ∃ y : Later W, w' = y.w :=
  ⟨⟨w', x.h.grown hg x.h.size hr⟩, rfl⟩
theorem Later.grown_own {W w' : World} {e : TypeId} {sz n : Nat} {v : Value} {xs : List Value} (x : Later W) (o : Obj) (hown : x.w.ownsRow W.heap.size e sz v n xs) (hg : (x.w.alloc o).grownBy w' v.ownBlock) : ∃ y : Later W, w' = y.w := by
  obtain ⟨x', hx'⟩ := x.step (below_alloc1 x.w o)
  rw [hx'] at hg
  exact x'.grown hg fun k hk => (hown.lt k hk).1
theorem Later.alloc {W : World} (x : Later W) (o : Obj) : ∃ y : Later W, x.w.alloc o = y.w := x.step (below_alloc1 _ _)

/-- 'append(out, u)': one cell, onto a row of the call's own -/
theorem wpList_app1 {ops : Array Oper} {rest : List Oper} {o : Oper} {a : Act} {Q : Exit → Act → World → Prop} {W : World} (y : Later W) (t e : TypeId) (z : Value) (bytes : Nat) (hinfo : (Try.prog.info? e).map (fun i => (i.zero, i.size, i.bytes)) = some (some z, 1, bytes))
    (hz : z.cells.size = 1) (ht : Try.prog.underlying t = some (.slice e)) (hgd : o.guard = none) (s x : Operand) (ho : o.op = .call { callee := .builtin .append, args := #[s, x], argTypes := #[t, t] })
    (v : Value) (n : Nat) (xs : List Value) (hs : a.eval s = v) (hown : y.w.ownsRow W.heap.size e 1 v n xs) (u : Value) (hx : a.eval x = .slice (some ⟨y.w.heap.size, 0, none⟩) 1 1) (hu : u.oneCell' = true) (hn : (n + 1) * bytes ≤ 140737488355328) (hn' : n + 1 ≤ 140737488355328)
    (h : ∀ v' (z : Later W), z.w.ownsRow W.heap.size e 1 v' (n + 1) (xs ++ [u]) → (y.w.alloc (.cells #[u] e)).grownBy z.w v.ownBlock → wpList Try.prog ops Q rest (a.put o.dst v') z.w) :
    wpList Try.prog ops Q (o :: rest) a (y.w.alloc (.cells #[u] e)) := by
  obtain ⟨i0, hi, hz0, hz1, hz2⟩ := info_parts hinfo
  have hb := y.h.size
  refine wpList_append_own _ hgd s x t ho W.heap.size e i0 z 1 bytes ht hi hz0 hz1 hz2 hz (by decide) v n xs hs (hown.alloc _) ⟨y.w.heap.size, 0, none⟩ 1 1 [u] hx rfl (cell_one_new _ _ _) (by simpa using hu) (by unfold maxLen; omega) hn (by simp; omega) ?_
  intro v' w1 hown' hg _
  obtain ⟨z, rfl⟩ := y.grown_own _ hown hg
  exact h v' z hown' hg

theorem owns_step {w : World} {B : Nat} {e : TypeId} {α : Type} {f : α → Value} {v : Value} {l l' : List α} {u : α} (h : w.ownsRow B e 1 v (l.length + 1) (l.map f ++ [f u])) (he : l' = l ++ [u]) : w.ownsRow B e 1 v l'.length (l'.map f) := by
  subst he; simpa using h

theorem owns_cell {w : World} {B : Nat} {e : TypeId} {v : Value} {n : Nat} {xs : List Value} (h : w.ownsRow B e 1 v n xs) :
    ∃ a c, v = .slice a n c ∧ xs.length = n ∧ ∀ i, i < n → ∃ b, a = some ⟨b, 0, none⟩ ∧ B ≤ b ∧ b < w.heap.size ∧ w.cell? ⟨b, 0 + i, none⟩ = xs[i]? := by
  have hl : xs.length = n := by have := h.1; omega
  rcases h.2 with ⟨rfl, rfl⟩ | ⟨g, cap, cur, rfl, hb, hg, _⟩
  · exact ⟨none, 0, rfl, hl, fun i hi => absurd hi (Nat.not_lt_zero _)⟩
  · refine ⟨_, cap, rfl, hl, fun i hi => ⟨g, rfl, hb, (Array.getElem?_eq_some_iff.1 hg).1, ?_⟩⟩
    have := h.cells (g := g) rfl i xs[i] (by simp [hl, hi])
    have hadd : (⟨g, 0, none⟩ : Addr).add i = ⟨g, 0 + i, none⟩ := by unfold Addr.add; split <;> simp_all
    rw [hadd] at this
    rw [this]; simp [hl, hi]
theorem isInts_of_owns {w : World} {B : Nat} {v : Value} {n : Nat} {l : List Int} (h : w.ownsRow B 3 1 v n (l.map (Value.int .i64))) (hn : n ≤ 17592186044416) : IsInts w v l := by
  obtain ⟨a, c, hv, hl, h⟩ := owns_cell h
  simp at hl
  subst hl
  refine ⟨a, c, hv, hn, fun i hi => ?_⟩
  obtain ⟨b, ha, _, hb, hc⟩ := h i hi
  exact ⟨b, 0, ha, hb, by rw [hc, nth_eq l i hi]; simp [hi]⟩
theorem isBools_of_owns {w : World} {B : Nat} {v : Value} {n : Nat} {l : List Bool} (h : w.ownsRow B 4 1 v n (l.map Value.bool)) (hn : n ≤ 140737488355328) : IsBools w v l := by
  obtain ⟨a, c, hv, hl, h⟩ := owns_cell h
  simp at hl
  subst hl
  refine ⟨a, c, hv, hn, fun i hi => ?_⟩
  obtain ⟨b, ha, _, hb, hc⟩ := h i hi
  exact ⟨b, 0, ha, hb, by rw [hc, nth_eq l i hi]; simp [hi]⟩

theorem Try.info3 : (Try.prog.info? 3).map (fun i => (i.zero, i.size, i.bytes)) = some (some (.int .i64 0), 1, 8) := by kernel_rfl
theorem Try.info4 : (Try.prog.info? 4).map (fun i => (i.zero, i.size, i.bytes)) = some (some (.bool false), 1, 1) := by kernel_rfl

/-- HOW A CALL ENDS that hands back numbers in memory of its own -/
def EndsInts (W : World) (l : List Int) (e : Ending) (w' : World) : Prop := ∃ v, e = .returned v ∧ ∃ y : Later W, w' = y.w ∧ IsInts y.w v l
/-- .. and an error code behind them -/
def EndsIntsE (W : World) (l : List Int) (n : Int) (e : Ending) (w' : World) : Prop := ∃ v, e = .returned (.tuple #[v, .int .i64 n]) ∧ ∃ y : Later W, w' = y.w ∧ IsInts y.w v l
/-- the numbers lie in a row of the call's own -/
def EndsOwn (W : World) (l : List Int) (e : Ending) (w' : World) : Prop := ∃ v, e = .returned v ∧ ∃ y : Later W, w' = y.w ∧ y.w.ownsRow W.heap.size 3 1 v l.length (l.map (Value.int .i64))

theorem ne_bne {a b : Nat} (h : ((a : Int) != (b : Int)) = true) : a ≠ b := by have := h; simp at this; omega
theorem eq_bne {a b : Nat} (h : ((a : Int) != (b : Int)) = false) : a = b := by have := h; simp at this; omega
theorem ne_bneI {a b : Int} (h : (a != b) = true) : a ≠ b := by simpa using h
theorem eq_bneI {a b : Int} (h : (a != b) = false) : a = b := by simpa using h
theorem eq_beqI {a b : Int} (h : (a == b) = true) : a = b := by simpa using h
theorem ne_beqI {a b : Int} (h : (a == b) = false) : a ≠ b := by simpa using h
theorem eq_beq {a b : Nat} (h : ((a : Int) == (b : Int)) = true) : a = b := by have := h; simp at this; omega
theorem ne_beq {a b : Nat} (h : ((a : Int) == (b : Int)) = false) : a ≠ b := by have := h; simp at this; omega

theorem ret_bool {a b : Bool} (h : a = b) : Ending.returned (.bool a) = .returned (.bool b) := by rw [h]
theorem ret_int {k : IntKind} {a b : Int} (h : a = b) : Ending.returned (.int k a) = .returned (.int k b) := by rw [h]

end Go.Proofs.Ytmpkbolabdmkkaa

/- THE DATA of chapter 7: fillings, what they keep, break and violate; the space. -/
namespace Go.Proofs.Ytmpkbolabdmkkaa

/-- the product as the reference reckons it: it stops growing above 2^50 -/
def rspaceTo (os : List (List Opt)) : Nat → Int
  | 0 => 1
  | k + 1 => if rspaceTo os k ≤ 1125899906842624 then rspaceTo os k * (nth os k).length else rspaceTo os k
def rspace (p : Prob) : Int := rspaceTo p.opts p.opts.length

/-- a list is a filling -/
def fillB (p : Prob) (f : List Int) : Bool := decide (f.length = p.panes.length ∧ ∀ i, i < f.length → wi (nth f i) 0 (((nth p.opts i).length : Int) - 1) = true)
theorem fillB_iff {p : Prob} {f : List Int} : fillB p f = true ↔ f.length = p.panes.length ∧ ∀ i, i < f.length → wi (nth f i) 0 (((nth p.opts i).length : Int) - 1) = true := by
  unfold fillB; rw [decide_eq_true_iff]
theorem fillB_no {p : Prob} {f : List Int} (h : f.length ≠ p.panes.length) : fillB p f = false := by
  rw [← Bool.not_eq_true, fillB_iff]; exact fun h' => h h'.1
theorem fillB_bad {p : Prob} {f : List Int} {i : Nat} (hi : i < f.length) (h : wi (nth f i) 0 (((nth p.opts i).length : Int) - 1) = false) : fillB p f = false := by
  rw [← Bool.not_eq_true, fillB_iff]; intro h'; have := h'.2 i hi; rw [h] at this; cases this

/-- the error of a problem and a filling -/
def wrongC (p : Prob) (f : List Int) : Int := if validP p = true then (if fillB p f = true then 0 else 71) else 70

/-- the piece that a filling lays in pane i -/
def pieceAt (p : Prob) (f : List Int) (i : Nat) : Int := (nth (nth p.opts i) (nth f i).toNat).piece
/-- no piece is used twice -/
def soundB (p : Prob) (f : List Int) : Bool := decide (∀ i, i < f.length → ∀ k, k < i → ¬ (0 < pieceAt p f i ∧ pieceAt p f i = pieceAt p f k))
theorem soundB_bad {p : Prob} {f : List Int} {i k : Nat} (hi : i < f.length) (hk : k < i) (h1 : 0 < pieceAt p f i) (h2 : pieceAt p f i = pieceAt p f k) : soundB p f = false := by
  unfold soundB; rw [decide_eq_false_iff_not]; exact fun h => h i hi k hk ⟨h1, h2⟩
theorem soundB_yes {p : Prob} {f : List Int} (h : ∀ i, i < f.length → ∀ k, k < i → ¬ (0 < pieceAt p f i ∧ pieceAt p f i = pieceAt p f k)) : soundB p f = true := by
  unfold soundB; rw [decide_eq_true_iff]; exact h

/-- the choice of a filling at the i-th pane of a rule -/
def chosenAt (r : Rl) (f : List Int) (i : Nat) : Int := nth f (nth r.panes i).toNat
/-- whether the i-th pane of a rule hits -/
def hitAt (r : Rl) (f : List Int) (i : Nat) : Bool := nth (nth r.hits i) (chosenAt r f i).toNat
def hitsTo (r : Rl) (f : List Int) : Nat → Int
  | 0 => 0
  | k + 1 => if hitAt r f k = true then hitsTo r f k + 1 else hitsTo r f k
theorem hitsTo_bd (r : Rl) (f : List Int) : ∀ k : Nat, 0 ≤ hitsTo r f k ∧ hitsTo r f k ≤ k
  | 0 => ⟨Int.le_refl _, Int.le_refl _⟩
  | k + 1 => by have := hitsTo_bd r f k; unfold hitsTo; split <;> omega
/-- a filling keeps a rule -/
def keepsB (r : Rl) (f : List Int) : Bool := if r.kind = 2 then nth (nth r.ok (chosenAt r f 0).toNat) (chosenAt r f 1).toNat else wi (hitsTo r f r.panes.length) r.lo r.hi

/-- the first k rules that a filling breaks -/
def breaksTo (p : Prob) (f : List Int) : Nat → List Int
  | 0 => []
  | k + 1 => if keepsB (nth p.rules k) f = true then breaksTo p f k else breaksTo p f k ++ [(k : Int)]
theorem breaksTo_len (p : Prob) (f : List Int) : ∀ k, (breaksTo p f k).length ≤ k
  | 0 => Nat.le_refl _
  | k + 1 => by unfold breaksTo; have := breaksTo_len p f k; split <;> simp <;> omega
def breaksL (p : Prob) (f : List Int) : List Int := breaksTo p f p.rules.length

/-- the items of the rules that a filling breaks, each once where they do not decrease -/
def violTo (p : Prob) (f : List Int) : Nat → List Int
  | 0 => []
  | k + 1 => if keepsB (nth p.rules k) f = true ∨ (violTo p f k).getLast? = some (nth p.rules k).item then violTo p f k else violTo p f k ++ [(nth p.rules k).item]
theorem violTo_len (p : Prob) (f : List Int) : ∀ k, (violTo p f k).length ≤ k
  | 0 => Nat.le_refl _
  | k + 1 => by unfold violTo; have := violTo_len p f k; split <;> simp <;> omega
def violL (p : Prob) (f : List Int) : List Int := violTo p f p.rules.length

/-- a filling agrees -/
def agreesB (p : Prob) (f : List Int) : Bool := soundB p f && decide (∀ i, i < p.rules.length → keepsB (nth p.rules i) f = true)

/-- what a valid problem and a filling give the functions that look things up -/
theorem valid_len {p : Prob} (h : validP p = true) : p.opts.length = p.panes.length := (validP_iff.1 h).1.1
theorem valid_rules {p : Prob} (h : validP p = true) : p.rules.length ≤ 256 := (validP_iff.1 h).1.2
theorem valid_pane64 {p : Prob} (h : validP p = true) : p.panes.length ≤ 64 := valid_panes (validP_iff.1 h).2.1
theorem valid_opts {p : Prob} (h : validP p = true) {i : Nat} (hi : i < p.opts.length) : 1 ≤ (nth p.opts i).length ∧ (nth p.opts i).length ≤ 256 := by
  have h1 := (paneOK_iff.1 ((validP_iff.1 h).2.1 i (by rw [← valid_len h]; exact hi))).2.2
  unfold optsOK at h1; rw [decide_eq_true_iff] at h1; exact ⟨h1.1, h1.2.1⟩
theorem valid_rule {p : Prob} (h : validP p = true) {i : Nat} (hi : i < p.rules.length) : ruleOK p (nth p.rules i) = true := (ruleAtOK_iff.1 ((validP_iff.1 h).2.2.1 i hi)).2.2
theorem fill_at {p : Prob} {f : List Int} (h : fillB p f = true) {i : Nat} (hi : i < f.length) : 0 ≤ nth f i ∧ nth f i < (nth p.opts i).length := by
  have := wi_iff.1 ((fillB_iff.1 h).2 i hi); omega
theorem ruleOK_iff {p : Prob} {r : Rl} : ruleOK p r = true ↔ (r.kind = 1 ∧ cntOK p r = true) ∨ (r.kind = 2 ∧ pairOK p r = true) := by
  unfold ruleOK; simp only [Bool.or_eq_true, Bool.and_eq_true, beq_iff_eq]

/-- what a rule that counts gives -/
theorem cnt_at {p : Prob} {r : Rl} (h : cntOK p r = true) : r.hits.length = r.panes.length ∧ r.ok.length = 0 ∧ ∀ i, i < r.panes.length → 0 ≤ nth r.panes i ∧ nth r.panes i < p.panes.length ∧ (0 < i → nth r.panes (i - 1) < nth r.panes i) ∧ (nth r.hits i).length = (nth p.opts (nth r.panes i).toNat).length := by
  unfold cntOK at h; rw [decide_eq_true_iff] at h
  exact ⟨h.1, h.2.1, fun i hi => by have h1 := h.2.2 i hi; have := wi_iff.1 h1.1; exact ⟨this.1, by omega, h1.2.1, h1.2.2⟩⟩
theorem pair_at {p : Prob} {r : Rl} (h : pairOK p r = true) : r.panes.length = 2 ∧ r.hits.length = 0 ∧ r.lo = 0 ∧ r.hi = 0 ∧ (0 ≤ nth r.panes 0 ∧ nth r.panes 0 < p.panes.length) ∧ (0 ≤ nth r.panes 1 ∧ nth r.panes 1 < p.panes.length) ∧ nth r.panes 0 ≠ nth r.panes 1 ∧
    r.ok.length = (nth p.opts (nth r.panes 0).toNat).length ∧ ∀ i, i < r.ok.length → (nth r.ok i).length = (nth p.opts (nth r.panes 1).toNat).length := by
  obtain ⟨⟨h1, h2, h3, h4⟩, h5, h6, h7, h8, h9⟩ := pairOK_iff.1 h
  have := wi_iff.1 h6; have := wi_iff.1 h7
  exact ⟨h1, h2, h3, h4, ⟨by omega, by omega⟩, ⟨by omega, by omega⟩, h5, h8, h9⟩

/-! what the functions hand back that judge a filling -/
theorem wrongC_0 {p : Prob} {f : List Int} (h1 : validP p = true) (h2 : fillB p f = true) : wrongC p f = 0 := by unfold wrongC; rw [if_pos h1, if_pos h2]
theorem wrongC_71 {p : Prob} {f : List Int} (h1 : validP p = true) (h2 : fillB p f = false) : wrongC p f = 71 := by unfold wrongC; rw [if_pos h1, if_neg (by simp [h2])]
theorem wrongC_70 {p : Prob} {f : List Int} (h1 : validP p = false) : wrongC p f = 70 := by unfold wrongC; rw [if_neg (by simp [h1])]
theorem wrongC_iff {p : Prob} {f : List Int} : wrongC p f = 0 ↔ validP p = true ∧ fillB p f = true := by
  cases h1 : validP p
  · simp [wrongC_70 h1]
  · cases h2 : fillB p f
    · simp [wrongC_71 h1 h2]
    · simp [wrongC_0 h1 h2]
def sndB (p : Prob) (f : List Int) : Bool := decide (wrongC p f = 0) && soundB p f
def agrB (p : Prob) (f : List Int) : Bool := decide (wrongC p f = 0) && agreesB p f
def brkL (p : Prob) (f : List Int) : List Int := if wrongC p f = 0 then breaksL p f else []
def vioL (p : Prob) (f : List Int) : List Int := if wrongC p f = 0 then violL p f else []
def spaceE (p : Prob) : Int := if validP p = true then (if 1125899906842624 < rspace p then 2 else 0) else 70
def spaceV (p : Prob) : Int := if spaceE p = 0 then rspace p else 0
theorem agreesB_bad {p : Prob} {f : List Int} {i : Nat} (hi : i < p.rules.length) (h : keepsB (nth p.rules i) f = false) : agreesB p f = false := by
  unfold agreesB; rw [Bool.and_eq_false_iff]; right; rw [decide_eq_false_iff_not]; intro h'; have := h' i hi; rw [h] at this; cases this
theorem agreesB_rest {p : Prob} {f : List Int} (h : ∀ i, i < p.rules.length → keepsB (nth p.rules i) f = true) : agreesB p f = soundB p f := by
  unfold agreesB; rw [decide_eq_true h, Bool.and_true]
theorem violTo_yes {p : Prob} {f : List Int} {k : Nat} (h : keepsB (nth p.rules k) f = false) (h' : (violTo p f k).length = 0 ∨ nth (violTo p f k) ((violTo p f k).length - 1) ≠ (nth p.rules k).item) : violTo p f (k + 1) = violTo p f k ++ [(nth p.rules k).item] := by
  show (if _ then _ else _) = _
  rw [if_neg]
  rintro (h1 | h1)
  · rw [h] at h1; cases h1
  · rcases h' with h' | h'
    · rw [List.length_eq_zero_iff.1 h'] at h1; cases h1
    · apply h'
      rw [List.getLast?_eq_getElem?] at h1
      unfold nth; rw [List.getD_eq_getElem?_getD, h1]; rfl
theorem violTo_no {p : Prob} {f : List Int} {k : Nat} (h : keepsB (nth p.rules k) f = true ∨ (0 < (violTo p f k).length ∧ nth (violTo p f k) ((violTo p f k).length - 1) = (nth p.rules k).item)) : violTo p f (k + 1) = violTo p f k := by
  show (if _ then _ else _) = _
  rw [if_pos]
  rcases h with h | ⟨h, h'⟩
  · exact .inl h
  · right
    rw [List.getLast?_eq_getElem?, ← h', nth_eq _ _ (by omega)]
    simp

end Go.Proofs.Ytmpkbolabdmkkaa

/- FILLINGS BY NUMBER: mixed radix numerals over the numbers of options; the next filling; the product. -/
namespace Go.Proofs.Ytmpkbolabdmkkaa

theorem nth_append_left {α : Type} [Inhabited α] {l m : List α} {i : Nat} (h : i < l.length) : nth (l ++ m) i = nth l i := by
  unfold nth; rw [List.getD_eq_getElem?_getD, List.getD_eq_getElem?_getD, List.getElem?_append_left h]
theorem nth_snoc {α : Type} [Inhabited α] (l : List α) (x : α) : nth (l ++ [x]) l.length = x := by
  unfold nth; simp [List.getD_eq_getElem?_getD]
theorem nth_take {α : Type} [Inhabited α] {l : List α} {k i : Nat} (h : i < k) : nth (l.take k) i = nth l i := by
  unfold nth; rw [List.getD_eq_getElem?_getD, List.getD_eq_getElem?_getD, List.getElem?_take, if_pos h]
theorem ext_nth {α : Type} [Inhabited α] {l m : List α} (hl : l.length = m.length) (h : ∀ i, i < l.length → nth l i = nth m i) : l = m := by
  apply List.ext_getElem hl
  intro i h1 h2
  have := h i h1
  rwa [nth_eq l i h1, nth_eq m i h2] at this
theorem take_snoc_nth {α : Type} [Inhabited α] (l : List α) (k : Nat) (h : k < l.length) : l.take (k + 1) = l.take k ++ [nth l k] := by
  rw [List.take_succ_eq_append_getElem h, nth_eq l k h]

/-- how many options pane i has -/
def dim (p : Prob) (i : Nat) : Nat := (nth p.opts i).length
def prodTo (p : Prob) : Nat → Nat
  | 0 => 1
  | k + 1 => prodTo p k * dim p k
theorem prodTo_succ (p : Prob) (k : Nat) : prodTo p (k + 1) = prodTo p k * dim p k := rfl
/-- how many fillings there are -/
def total (p : Prob) : Nat := prodTo p p.opts.length

/-- the first k choices of f are some -/
def Okk (p : Prob) (k : Nat) (f : List Int) : Prop := f.length = k ∧ ∀ i, i < k → 0 ≤ nth f i ∧ nth f i < dim p i

/-- the number of the first k choices -/
def rankTo (p : Prob) (f : List Int) : Nat → Nat
  | 0 => 0
  | k + 1 => rankTo p f k * dim p k + (nth f k).toNat
/-- the choices of number r -/
def unr (p : Prob) : Nat → Nat → List Int
  | 0, _ => []
  | k + 1, r => unr p k (r / dim p k) ++ [((r % dim p k : Nat) : Int)]

theorem unr_succ (p : Prob) (k r : Nat) : unr p (k + 1) r = unr p k (r / dim p k) ++ [((r % dim p k : Nat) : Int)] := rfl
theorem unr_len (p : Prob) : ∀ k r, (unr p k r).length = k
  | 0, _ => rfl
  | k + 1, r => by simp [unr, unr_len p k]
theorem rankTo_congr (p : Prob) {f g : List Int} : ∀ k, (∀ i, i < k → nth f i = nth g i) → rankTo p f k = rankTo p g k
  | 0, _ => rfl
  | k + 1, h => by unfold rankTo; rw [rankTo_congr p k (fun i hi => h i (by omega)), h k (by omega)]
theorem rank_unr (p : Prob) : ∀ k r, (∀ i, i < k → 0 < dim p i) → r < prodTo p k → rankTo p (unr p k r) k = r
  | 0, r, _, h => by simp [prodTo] at h; simp [rankTo, h]
  | k + 1, r, hd, h => by
    have hl := unr_len p k (r / dim p k)
    have h0 := hd k (by omega)
    unfold rankTo unr
    rw [rankTo_congr p k (g := unr p k (r / dim p k)) (fun i hi => nth_append_left (by omega)),
      rank_unr p k (r / dim p k) (fun i hi => hd i (by omega)) (by unfold prodTo at h; exact Nat.div_lt_of_lt_mul (by rw [Nat.mul_comm]; exact h))]
    have : nth (unr p k (r / dim p k) ++ [((r % dim p k : Nat) : Int)]) k = ((r % dim p k : Nat) : Int) := by
      have := nth_snoc (unr p k (r / dim p k)) ((r % dim p k : Nat) : Int); rwa [hl] at this
    rw [this, Int.toNat_natCast]
    have := Nat.div_add_mod r (dim p k)
    rw [Nat.mul_comm] at this; exact this
theorem unr_ok (p : Prob) : ∀ k r, (∀ i, i < k → 0 < dim p i) → Okk p k (unr p k r)
  | 0, r, _ => ⟨rfl, fun i hi => absurd hi (Nat.not_lt_zero _)⟩
  | k + 1, r, hd => by
    refine ⟨unr_len p _ _, fun i hi => ?_⟩
    have hl := unr_len p k (r / dim p k)
    unfold unr
    rcases Nat.lt_succ_iff_lt_or_eq.1 hi with h | rfl
    · rw [nth_append_left (by omega)]; exact (unr_ok p k _ (fun i hi => hd i (by omega))).2 i h
    · have h1 := nth_snoc (unr p i (r / dim p i)) ((r % dim p i : Nat) : Int)
      rw [hl] at h1
      rw [h1]
      have := Nat.mod_lt r (hd i (by omega))
      omega
theorem rank_lt (p : Prob) {f : List Int} : ∀ k, (∀ i, i < k → 0 ≤ nth f i ∧ nth f i < dim p i) → rankTo p f k < prodTo p k
  | 0, _ => by simp [rankTo, prodTo]
  | k + 1, h => by
    have h1 := rank_lt p k (fun i hi => h i (by omega))
    have h2 := h k (by omega)
    unfold rankTo prodTo
    have h3 : (nth f k).toNat < dim p k := by omega
    calc rankTo p f k * dim p k + (nth f k).toNat < rankTo p f k * dim p k + dim p k := by omega
      _ = (rankTo p f k + 1) * dim p k := by rw [Nat.add_mul, Nat.one_mul]
      _ ≤ prodTo p k * dim p k := Nat.mul_le_mul_right _ h1
theorem unr_rank (p : Prob) {f : List Int} : ∀ k, k ≤ f.length → (∀ i, i < k → 0 ≤ nth f i ∧ nth f i < dim p i) → unr p k (rankTo p f k) = f.take k
  | 0, _, _ => by simp [unr]
  | k + 1, hl, h => by
    have h2 := h k (by omega)
    have h3 : (nth f k).toNat < dim p k := by omega
    have hd : 0 < dim p k := by omega
    have e1 : (rankTo p f k * dim p k + (nth f k).toNat) / dim p k = rankTo p f k := by
      rw [Nat.mul_comm, Nat.mul_add_div hd, Nat.div_eq_of_lt h3, Nat.add_zero]
    have e2 : (rankTo p f k * dim p k + (nth f k).toNat) % dim p k = (nth f k).toNat := by
      rw [Nat.mul_comm, Nat.mul_add_mod, Nat.mod_eq_of_lt h3]
    unfold rankTo unr
    rw [e1, e2, unr_rank p k (by omega) (fun i hi => h i (by omega)), take_snoc_nth f k (by omega)]
    congr 2
    omega

/-- the choices that come next -/
def nextK (p : Prob) : Nat → List Int → Option (List Int)
  | 0, _ => none
  | k + 1, f => if nth f k + 1 < dim p k then some (f.take k ++ [nth f k + 1]) else (nextK p k (f.take k)).map (· ++ [0])
def nextF (p : Prob) (f : List Int) : Option (List Int) := nextK p f.length f

theorem nextK_spec (p : Prob) : ∀ k (f : List Int), Okk p k f → nextK p k f = if rankTo p f k + 1 < prodTo p k then some (unr p k (rankTo p f k + 1)) else none
  | 0, f, _ => by simp [nextK, rankTo, prodTo]
  | k + 1, f, h => by
    have h2 := h.2 k (by omega)
    have hok : Okk p k (f.take k) := ⟨by rw [List.length_take, h.1]; omega, fun i hi => by rw [nth_take hi]; exact h.2 i (by omega)⟩
    have hr : rankTo p (f.take k) k = rankTo p f k := rankTo_congr p k fun i hi => nth_take hi
    have hd : 0 < dim p k := by omega
    have hlt := rank_lt p (f := f) k (fun i hi => h.2 i (by omega))
    unfold nextK
    rw [nextK_spec p k _ hok, hr]
    obtain ⟨x, hx⟩ : ∃ x, x = (nth f k).toNat := ⟨_, rfl⟩
    have hxi : nth f k = x := by omega
    have hxd : x < dim p k := by omega
    generalize hR : rankTo p f k = R at *
    have e0 : rankTo p f (k + 1) = R * dim p k + x := by unfold rankTo; rw [hR, hx]
    by_cases hc : nth f k + 1 < dim p k
    · have hc' : x + 1 < dim p k := by omega
      have e1 : (R * dim p k + x + 1) / dim p k = R := by rw [Nat.add_assoc, Nat.mul_comm, Nat.mul_add_div hd, Nat.div_eq_of_lt hc', Nat.add_zero]
      have e2 : (R * dim p k + x + 1) % dim p k = x + 1 := by rw [Nat.add_assoc, Nat.mul_comm, Nat.mul_add_mod, Nat.mod_eq_of_lt hc']
      have e3 : R * dim p k + x + 1 < prodTo p (k + 1) := by
        unfold prodTo
        calc R * dim p k + x + 1 < R * dim p k + dim p k := by omega
          _ = (R + 1) * dim p k := by rw [Nat.add_mul, Nat.one_mul]
          _ ≤ prodTo p k * dim p k := Nat.mul_le_mul_right _ hlt
      rw [if_pos hc, e0, if_pos e3]
      rw [unr_succ, e1, e2]
      have e4 := unr_rank p (f := f) k (by have := h.1; omega) (fun i hi => h.2 i (by omega))
      rw [hR] at e4
      rw [e4, hxi]
      rfl
    · have hc' : x + 1 = dim p k := by omega
      have e1 : R * dim p k + x + 1 = (R + 1) * dim p k := by rw [Nat.add_mul, Nat.one_mul]; omega
      rw [if_neg hc, e0, e1, prodTo_succ]
      by_cases hp : R + 1 < prodTo p k
      · rw [if_pos hp, if_pos (Nat.mul_lt_mul_of_pos_right hp hd)]
        rw [unr_succ, Nat.mul_div_cancel _ hd, Nat.mul_mod_left]
        rfl
      · rw [if_neg hp, if_neg (fun h => hp (Nat.lt_of_mul_lt_mul_right h))]
        rfl

/-- how the loop of the next filling stands: from j on all choices were the last ones, and are 0 now -/
theorem nextK_skip (p : Prob) {f : List Int} : ∀ n j, j ≤ n → n ≤ f.length → (∀ i, j ≤ i → i < n → ¬ nth f i + 1 < dim p i) → nextK p n (f.take n) = (nextK p j (f.take j)).map (· ++ List.replicate (n - j) 0)
  | 0, j, hj, _, _ => by obtain rfl : j = 0 := by omega
                         simp [nextK]
  | n + 1, j, hj, hn, h => by
    rcases Nat.lt_or_ge j (n + 1) with hlt | hge
    · have h1 := h n (by omega) (by omega)
      have e : n + 1 - j = (n - j) + 1 := by omega
      show (if _ then _ else _) = _
      rw [nth_take (by omega), if_neg h1, List.take_take, Nat.min_eq_left (by omega), nextK_skip p n j (by omega) (by omega) (fun i hi hi' => h i hi (by omega)), e, List.replicate_succ']
      cases nextK p j (f.take j) <;> simp
    · obtain rfl : j = n + 1 := by omega
      simp
theorem nextF_stop (p : Prob) {f : List Int} {j : Nat} (hj : j < f.length) (hlt : nth f j + 1 < dim p j) (h : ∀ i, j + 1 ≤ i → i < f.length → ¬ nth f i + 1 < dim p i) :
    nextF p f = some (f.take j ++ [nth f j + 1] ++ List.replicate (f.length - (j + 1)) 0) := by
  unfold nextF
  have e := nextK_skip p (f := f) f.length (j + 1) (by omega) (Nat.le_refl _) h
  rw [List.take_length] at e
  rw [e]
  show (if _ then _ else _ : Option (List Int)).map _ = _
  rw [nth_take (by omega), if_pos hlt, List.take_take, Nat.min_eq_left (by omega)]
  rfl
theorem nextF_last (p : Prob) {f : List Int} (h : ∀ i, i < f.length → ¬ nth f i + 1 < dim p i) : nextF p f = none := by
  unfold nextF
  have e := nextK_skip p (f := f) f.length 0 (by omega) (Nat.le_refl _) (fun i _ hi => h i hi)
  rw [List.take_length] at e
  rw [e]; rfl

theorem nextF_stop' (p : Prob) {f : List Int} {j : Nat} (hj : j < f.length) (hlt : nth f j + 1 < dim p j) (h : ∀ i, j + 1 ≤ i → i < f.length → (dim p i : Int) ≤ nth f i + 1) :
    nextF p f = some (f.take j ++ [nth f j + 1] ++ List.replicate (f.length - (j + 1)) 0) := nextF_stop p hj hlt fun i h1 h2 => Int.not_lt.2 (h i h1 h2)
theorem nextF_last' (p : Prob) {f : List Int} (h : ∀ i, i < f.length → (dim p i : Int) ≤ nth f i + 1) : nextF p f = none := nextF_last p fun i h1 => Int.not_lt.2 (h i h1)
theorem all_from {P : Nat → Prop} {k n : Nat} (h : ∀ i, k + 1 ≤ i → i < n → P i) (hk : P k) : ∀ i, k ≤ i → i < n → P i := fun i h1 h2 => by
  rcases Nat.lt_or_ge k i with h3 | h3
  · exact h i h3 h2
  · obtain rfl : i = k := by omega
    exact hk

end Go.Proofs.Ytmpkbolabdmkkaa

/- MORE WORDS FOR MEMORY: appends of many cells, stores into rows of the call's own, lists of lists of numbers. -/
namespace Go.Proofs.Ytmpkbolabdmkkaa
open Go.RowKit

theorem run_app_nil {P : Program} (w : World) (base : Nat) (t ty e : TypeId) (i : TypeInfo) (size : Nat) (ht : P.underlying t = some (.slice e)) (hi : P.info? e = some i)
    (v : Value) (n : Nat) (xs : List Value) (hown : w.ownsRow base e size v n xs) (c : Nat) : (Builtin.append_ #[t, t] ty #[v, .slice none 0 c]).run P w = .ok v w := by
  rcases hown.2 with ⟨rfl, rfl⟩ | ⟨g, cap, cur, rfl, _, _, hnc, _⟩
  · simp [Builtin.append_, run_underlying ht, sizeOf, typeInfo, hi, Builtin.lenOf, Builtin.firstCells]
  · simp [Builtin.append_, run_underlying ht, sizeOf, typeInfo, hi, Builtin.lenOf, Builtin.firstCells, hnc, storeCells]

/-- 'append(out, src...)' onto a row of the call's own; the source may be nil, empty or not -/
theorem wpList_appN {ops : Array Oper} {rest : List Oper} {o : Oper} {a : Act} {Q : Exit → Act → World → Prop} {W : World} (y : Later W) (t e : TypeId) (z : Value) (sz bytes : Nat) (hinfo : (Try.prog.info? e).map (fun i => (i.zero, i.size, i.bytes)) = some (some z, sz, bytes))
    (hz : z.cells.size = sz) (hsz : 0 < sz) (ht : Try.prog.underlying t = some (.slice e)) (hgd : o.guard = none) (s x : Operand) (ho : o.op = .call { callee := .builtin .append, args := #[s, x], argTypes := #[t, t] })
    (v : Value) (n : Nat) (xs : List Value) (hs : a.eval s = v) (hown : y.w.ownsRow W.heap.size e sz v n xs) (A : Option Addr) (m c : Nat) (news : List Value) (hx : a.eval x = .slice A m c) (hl : news.length = m * sz)
    (hcells : ∀ j, j < m * sz → ∃ b o, A = some ⟨b, o, none⟩ ∧ y.w.cell? ⟨b, o + j, none⟩ = news[j]?) (h1 : ∀ u ∈ news, u.oneCell' = true) (hn : (n + m) * bytes ≤ 140737488355328) (hn' : n + m ≤ 140737488355328)
    (h : ∀ v' (z : Later W), z.w.ownsRow W.heap.size e sz v' (n + m) (xs ++ news) → y.w.grownBy z.w v.ownBlock → wpList Try.prog ops Q rest (a.put o.dst v') z.w) :
    wpList Try.prog ops Q (o :: rest) a y.w := by
  obtain ⟨i0, hi, hz0, hz1, hz2⟩ := info_parts hinfo
  have hb := y.h.size
  have key : ∃ v' w', (Builtin.append_ #[t, t] o.type #[v, .slice A m c]).run Try.prog y.w = .ok v' w' ∧ w'.ownsRow W.heap.size e sz v' (n + m) (xs ++ news) ∧ y.w.grownBy w' v.ownBlock := by
    rcases A with _ | ad
    · have hm : m = 0 := by
        rcases Nat.eq_zero_or_pos m with h0 | h0
        · exact h0
        · obtain ⟨b, o, h, _⟩ := hcells 0 (Nat.mul_pos h0 hsz); cases h
      subst hm
      obtain rfl : news = [] := List.eq_nil_of_length_eq_zero (by simpa using hl)
      exact ⟨v, y.w, run_app_nil y.w W.heap.size t o.type e i0 sz ht hi v n xs hown c, by simpa using hown, World.grownBy.refl y.w _⟩
    · have hc : ∀ j u, news[j]? = some u → y.w.cell? (ad.add j) = some u := by
        intro j u hu
        have hj : j < m * sz := by rw [← hl]; exact (List.getElem?_eq_some_iff.1 hu).1
        obtain ⟨b, o, e1, e2⟩ := hcells j hj
        cases e1
        rw [hu] at e2
        have hadd : (⟨b, o, none⟩ : Addr).add j = ⟨b, o + j, none⟩ := by unfold Addr.add; split <;> simp_all
        rw [hadd]; exact e2
      obtain ⟨v', w', hrun, h2, h3, _⟩ := run_append_own_at (P := Try.prog) y.w W.heap.size t o.type e i0 z sz bytes ht hi hz0 hz1 hz2 hz hsz v n xs hown ad m c news hl hc h1 (by unfold maxLen; omega) hn (by omega)
      exact ⟨v', w', hrun, h2, h3⟩
  obtain ⟨v', w', hrun, h2, h3⟩ := key
  obtain ⟨z, rfl⟩ := y.grown h3 (fun k hk => (hown.lt k hk).1)
  refine wpList_plain hgd fun K hK => ?_
  unfold Oper.wp execOp
  simp only [ho, resolve, invoke, builtin, Sem.run_bind, Sem.run_pure, Result.andThen_ok, List.map_toArray, List.map_cons, List.map_nil, hs, hx, hrun]
  exact hK _ _ (h v' z h2 h3)

theorem ints_cells {W : World} {A : Option Addr} {l : List Int} (h : ∀ i, i < l.length → ∃ b o, A = some ⟨b, o, none⟩ ∧ (∀ x : Later W, b < x.w.heap.size) ∧ ∀ x : Later W, x.w.cell? ⟨b, o + i, none⟩ = some (.int .i64 (nth l i))) (z : Later W) :
    ∀ j, j < l.length * 1 → ∃ b o, A = some ⟨b, o, none⟩ ∧ z.w.cell? ⟨b, o + j, none⟩ = (l.map (Value.int .i64))[j]? := fun j hj => by
  obtain ⟨b, o, ha, _, hc⟩ := h j (by omega)
  refine ⟨b, o, ha, (hc z).trans ?_⟩
  rw [nth_eq l j (by omega)]
  simp [show j < l.length by omega]
theorem bools_cells {W : World} {A : Option Addr} {l : List Bool} (h : ∀ i, i < l.length → ∃ b o, A = some ⟨b, o, none⟩ ∧ (∀ x : Later W, b < x.w.heap.size) ∧ ∀ x : Later W, x.w.cell? ⟨b, o + i, none⟩ = some (.bool (nth l i))) (z : Later W) :
    ∀ j, j < l.length * 1 → ∃ b o, A = some ⟨b, o, none⟩ ∧ z.w.cell? ⟨b, o + j, none⟩ = (l.map Value.bool)[j]? := fun j hj => by
  obtain ⟨b, o, ha, _, hc⟩ := h j (by omega)
  refine ⟨b, o, ha, (hc z).trans ?_⟩
  rw [nth_eq l j (by omega)]
  simp [show j < l.length by omega]
theorem ints_one (l : List Int) : ∀ u ∈ l.map (Value.int .i64), u.oneCell' = true := by simp [Value.oneCell']
theorem bools_one (l : List Bool) : ∀ u ∈ l.map Value.bool, u.oneCell' = true := fun u hu => by obtain ⟨b, _, rfl⟩ := List.mem_map.1 hu; rfl

/-- an empty row that is not nil -/
theorem owns_empty {W : World} (y : Later W) (e : TypeId) (sz : Nat) : ∃ z : Later W, y.w.alloc (.cells #[] e) = z.w ∧ z.w.ownsRow W.heap.size e sz (.slice (some ⟨y.w.heap.size, 0, none⟩) 0 0) 0 [] := by
  obtain ⟨z, hz⟩ := y.alloc (.cells #[] e)
  refine ⟨z, hz, ?_⟩
  rw [← hz]
  exact World.ownsRow_lit y.w #[] 0 y.h.size (by unfold maxLen; omega) (by simp)

/-- a row of the call's own, opened at place j, and written there -/
theorem owns_at {W : World} (y : Later W) {e : TypeId} {g n c : Nat} {xs : List Value} (h : y.w.ownsRow W.heap.size e 1 (.slice (some ⟨g, 0, none⟩) n c) n xs) (j : Nat) (hj : j < n) :
    y.w.cell? ⟨g, j, none⟩ = xs[j]? ∧ y.w.frozen? ⟨g, j, none⟩ = false ∧ g < y.w.heap.size ∧
    (∀ u, ∃ z : Later W, y.w.setCell ⟨g, j, none⟩ u = z.w ∧ z.w.ownsRow W.heap.size e 1 (.slice (some ⟨g, 0, none⟩) n c) n (xs.set j u) ∧ y.w.grownBy z.w (some g)) := by
  obtain ⟨a, c', hv, hl, hc⟩ := owns_cell h
  cases hv
  obtain ⟨b, hb, hle, hlt, hcell⟩ := hc j hj
  cases hb
  refine ⟨by rw [Nat.zero_add] at hcell; exact hcell, h.frozenAt j, hlt, fun u => ?_⟩
  obtain ⟨h1, h2⟩ := h.stored j u
  obtain ⟨z, hz⟩ := y.grown h2 (fun k hk => by cases hk; exact hle)
  exact ⟨z, hz, hz ▸ h1, hz ▸ h2⟩
/-- a row that holds something starts at the head of a block -/
theorem owns_head {w : World} {B : Nat} {e : TypeId} {v : Value} {n : Nat} {xs : List Value} (h : w.ownsRow B e 1 v n xs) (hn : 0 < n) : ∃ g c, v = .slice (some ⟨g, 0, none⟩) n c ∧ B ≤ g ∧ g < w.heap.size := by
  rcases h.2 with ⟨_, rfl⟩ | ⟨g, cap, cur, rfl, hb, hg, _⟩
  · omega
  · exact ⟨g, cap, rfl, hb, (Array.getElem?_eq_some_iff.1 hg).1⟩
theorem owns_slice {w : World} {B : Nat} {e : TypeId} {sz : Nat} {v : Value} {n : Nat} {xs : List Value} (h : w.ownsRow B e sz v n xs) : ∃ A c, v = .slice A n c := by
  rcases h.2 with ⟨rfl, rfl⟩ | ⟨g, cap, cur, rfl, _⟩
  · exact ⟨none, 0, rfl⟩
  · exact ⟨_, cap, rfl⟩

/-- lists of lists of numbers -/
def IsIntss (w : World) (v : Value) (l : List (List Int)) : Prop :=
  ∃ a c, v = .slice a l.length c ∧ l.length ≤ 5864062014805 ∧ ∀ i, i < l.length → ∃ b o, a = some ⟨b, o, none⟩ ∧ b < w.heap.size ∧ ∃ u, w.cell? ⟨b, o + i, none⟩ = some u ∧ IsInts w u (nth l i)
theorem IsIntss.below {w w' : World} (hb : Below w.heap.size w w') {v : Value} {l : List (List Int)} (h : IsIntss w v l) : IsIntss w' v l := by
  obtain ⟨a, c, hv, hl, h⟩ := h
  refine ⟨a, c, hv, hl, fun i hi => ?_⟩
  obtain ⟨b, o, ha, hlt, u, hc, hu⟩ := h i hi
  exact ⟨b, o, ha, Nat.lt_of_lt_of_le hlt hb.size, u, (hb.cell (p := ⟨b, o + i, none⟩) hlt).trans hc, hu.below hb⟩
theorem IsIntss.opened {W : World} {v : Value} {l : List (List Int)} (h : IsIntss W v l) : ∃ a c, v = .slice a l.length c ∧ l.length ≤ 5864062014805 ∧ Hid (∀ i, i < l.length → ∃ b o, a = some ⟨b, o, none⟩ ∧ (∀ x : Later W, b < x.w.heap.size) ∧
    ∃ u, (∀ x : Later W, x.w.cell? ⟨b, o + i, none⟩ = some u) ∧ IsInts W u (nth l i)) := by
  obtain ⟨a, c, hv, hl, h⟩ := h
  refine ⟨a, c, hv, hl, fun i hi => ?_⟩
  obtain ⟨b, o, ha, hb, u, hc, hu⟩ := h i hi
  exact ⟨b, o, ha, Later.size hb, u, Later.cell hb hc, hu⟩
theorem Try.info22 : (Try.prog.info? 22).map (fun i => (i.zero, i.size, i.bytes)) = some (some (.slice none 0 0), 1, 24) := by kernel_rfl

/-- numbers whose cells lie outside block g -/
def IntsOff (w : World) (B : Nat) (g : Option Nat) (v : Value) (l : List Int) : Prop :=
  ∃ a c, v = .slice a l.length c ∧ l.length ≤ 17592186044416 ∧ ∀ i, i < l.length → ∃ b o, a = some ⟨b, o, none⟩ ∧ b < w.heap.size ∧ (B ≤ b ∧ some b ≠ g) ∧ w.cell? ⟨b, o + i, none⟩ = some (.int .i64 (nth l i))
theorem IntsOff.is {w : World} {B : Nat} {g : Option Nat} {v : Value} {l : List Int} (h : IntsOff w B g v l) : IsInts w v l := by
  obtain ⟨a, c, hv, hl, h⟩ := h
  exact ⟨a, c, hv, hl, fun i hi => let ⟨b, o, ha, hb, _, hc⟩ := h i hi; ⟨b, o, ha, hb, hc⟩⟩
theorem IntsOff.kept {w w' : World} {B : Nat} {g g' : Option Nat} {v : Value} {l : List Int} (h : IntsOff w B g v l) (hg : w.grownBy w' g) (hg' : g' = g ∨ ∃ k, g' = some k ∧ w.heap.size ≤ k) : IntsOff w' B g' v l := by
  obtain ⟨a, c, hv, hl, h⟩ := h
  refine ⟨a, c, hv, hl, fun i hi => ?_⟩
  obtain ⟨b, o, ha, hb, hn, hc⟩ := h i hi
  refine ⟨b, o, ha, Nat.lt_of_lt_of_le hb hg.size, ⟨hn.1, ?_⟩, hg.cell hc hn.2⟩
  rcases hg' with rfl | ⟨k, rfl, hk⟩
  · exact hn.2
  · intro e; cases e; omega
theorem IntsOff.later {w w' : World} {B : Nat} {g : Option Nat} {v : Value} {l : List Int} (h : IntsOff w B g v l) (hb : Below w.heap.size w w') : IntsOff w' B g v l := by
  obtain ⟨a, c, hv, hl, h⟩ := h
  refine ⟨a, c, hv, hl, fun i hi => ?_⟩
  obtain ⟨b, o, ha, hlt, hn, hc⟩ := h i hi
  exact ⟨b, o, ha, Nat.lt_of_lt_of_le hlt hb.size, hn, (hb.cell (p := ⟨b, o + i, none⟩) hlt).trans hc⟩
/-- what was there before the row's memory began lies outside it -/
theorem IntsOff.off {W w : World} {B : Nat} {g' : Option Nat} {v : Value} {l : List Int} (h : IntsOff W B g' v l) (hb : Below W.heap.size W w) {g : Option Nat} (hg : ∀ k, g = some k → W.heap.size ≤ k) : IntsOff w B g v l := by
  obtain ⟨a, c, hv, hl, h⟩ := h
  refine ⟨a, c, hv, hl, fun i hi => ?_⟩
  obtain ⟨b, o, ha, hlt, hB, hc⟩ := h i hi
  exact ⟨b, o, ha, Nat.lt_of_lt_of_le hlt hb.size, ⟨hB.1, fun e => by have := hg b e.symm; omega⟩, (hb.cell (p := ⟨b, o + i, none⟩) hlt).trans hc⟩
/-- what has just been made lies outside an elder row -/
theorem owns_off {w : World} {B B' n : Nat} {v : Value} {l : List Int} (h : w.ownsRow B 3 1 v n (l.map (Value.int .i64))) (hn : n ≤ 17592186044416) (hB : B' ≤ B) {g : Option Nat} (hg : ∀ k, g = some k → k < B) : IntsOff w B' g v l := by
  obtain ⟨a, c, hv, hl, h⟩ := owns_cell h
  simp at hl
  subst hl
  refine ⟨a, c, hv, hn, fun i hi => ?_⟩
  obtain ⟨b, ha, hle, hb, hc⟩ := h i hi
  exact ⟨b, 0, ha, hb, ⟨by omega, fun e => by have := hg b e.symm; omega⟩, by rw [hc, nth_eq l i hi]; simp [hi]⟩
theorem IntsOff.setCell {w : World} {B : Nat} {g : Option Nat} {v : Value} {l : List Int} (h : IntsOff w B g v l) {a : Addr} (ha : a.block < B) (u : Value) : IntsOff (w.setCell a u) B g v l := by
  obtain ⟨a', c, hv, hl, h⟩ := h
  refine ⟨a', c, hv, hl, fun i hi => ?_⟩
  obtain ⟨b, o, ha', hlt, hB, hc⟩ := h i hi
  exact ⟨b, o, ha', by simpa [World.setCell] using hlt, hB, (World.cell?_setCell_other w a ⟨b, o + i, none⟩ u (fun e => by subst e; have := hB.1; simp at ha; omega)).trans hc⟩
theorem owns_mono {w : World} {B B' : Nat} {e : TypeId} {sz n : Nat} {v : Value} {xs : List Value} (h : w.ownsRow B e sz v n xs) (hB : B' ≤ B) : w.ownsRow B' e sz v n xs := by
  refine ⟨h.1, ?_⟩
  rcases h.2 with h | ⟨g, cap, cur, h1, h2, h3⟩
  · exact .inl h
  · exact .inr ⟨g, cap, cur, h1, by omega, h3⟩

theorem owns_len {w : World} {B : Nat} {e : TypeId} {n : Nat} {v : Value} {α : Type} {f : α → Value} {l : List α} (h : w.ownsRow B e 1 v n (l.map f)) : w.ownsRow B e 1 v l.length (l.map f) := by
  have := h.1; simp at this; rw [this]; exact h

/-- a row of the call's own of lists of numbers: each of its lists reads as it should, lies outside the row, and from block B on -/
def OwnIntss {W : World} (y : Later W) (B : Nat) (v : Value) (l : List (List Int)) : Prop :=
  ∃ vs : List Value, y.w.ownsRow W.heap.size 22 1 v l.length vs ∧ vs.length = l.length ∧ ∀ i, i < l.length → ∃ u, vs[i]? = some u ∧ IntsOff y.w B v.ownBlock u (nth l i)
theorem OwnIntss.nil {W : World} (y : Later W) (B : Nat) : OwnIntss y B (.slice none 0 0) [] := ⟨[], World.ownsRow_nil _ _ _ _, rfl, fun _ hi => absurd hi (Nat.not_lt_zero _)⟩
/-- lists of lists of numbers, from block B on -/
def IsIntssF (B : Nat) (w : World) (v : Value) (l : List (List Int)) : Prop :=
  ∃ a c, v = .slice a l.length c ∧ l.length ≤ 5864062014805 ∧ ∀ i, i < l.length → ∃ b o, a = some ⟨b, o, none⟩ ∧ b < w.heap.size ∧ B ≤ b ∧ ∃ u, w.cell? ⟨b, o + i, none⟩ = some u ∧ IntsOff w B none u (nth l i)
theorem IntsOff.none {w : World} {B : Nat} {g : Option Nat} {v : Value} {l : List Int} (h : IntsOff w B g v l) : IntsOff w B Option.none v l := by
  obtain ⟨a, c, hv, hl, h⟩ := h
  exact ⟨a, c, hv, hl, fun i hi => let ⟨b, o, ha, hb, hn, hc⟩ := h i hi; ⟨b, o, ha, hb, ⟨hn.1, by simp⟩, hc⟩⟩
theorem IntsOff.mono {w : World} {B B' : Nat} {g : Option Nat} {v : Value} {l : List Int} (h : IntsOff w B g v l) (hB : B' ≤ B) : IntsOff w B' g v l := by
  obtain ⟨a, c, hv, hl, h⟩ := h
  exact ⟨a, c, hv, hl, fun i hi => let ⟨b, o, ha, hb, hn, hc⟩ := h i hi; ⟨b, o, ha, hb, ⟨by omega, hn.2⟩, hc⟩⟩
theorem IsIntssF.is {B : Nat} {w : World} {v : Value} {l : List (List Int)} (h : IsIntssF B w v l) : IsIntss w v l := by
  obtain ⟨a, c, hv, hl, h⟩ := h
  exact ⟨a, c, hv, hl, fun i hi => let ⟨b, o, ha, hb, _, u, hc, hu⟩ := h i hi; ⟨b, o, ha, hb, u, hc, hu.is⟩⟩
theorem IsIntssF.mono {B B' : Nat} {w : World} {v : Value} {l : List (List Int)} (h : IsIntssF B w v l) (hB : B' ≤ B) : IsIntssF B' w v l := by
  obtain ⟨a, c, hv, hl, h⟩ := h
  exact ⟨a, c, hv, hl, fun i hi => let ⟨b, o, ha, hb, hn, u, hc, hu⟩ := h i hi; ⟨b, o, ha, hb, by omega, u, hc, hu.mono hB⟩⟩
theorem IsIntssF.later {B : Nat} {w w' : World} {v : Value} {l : List (List Int)} (h : IsIntssF B w v l) (hb : Below w.heap.size w w') : IsIntssF B w' v l := by
  obtain ⟨a, c, hv, hl, h⟩ := h
  refine ⟨a, c, hv, hl, fun i hi => ?_⟩
  obtain ⟨b, o, ha, hlt, hn, u, hc, hu⟩ := h i hi
  exact ⟨b, o, ha, Nat.lt_of_lt_of_le hlt hb.size, hn, u, (hb.cell (p := ⟨b, o + i, Option.none⟩) hlt).trans hc, hu.later hb⟩
theorem IsIntssF.setCell {B : Nat} {w : World} {v : Value} {l : List (List Int)} (h : IsIntssF B w v l) {a : Addr} (ha : a.block < B) (u : Value) : IsIntssF B (w.setCell a u) v l := by
  obtain ⟨a', c, hv, hl, h⟩ := h
  refine ⟨a', c, hv, hl, fun i hi => ?_⟩
  obtain ⟨b, o, ha', hlt, hn, q, hc, hq⟩ := h i hi
  exact ⟨b, o, ha', by simpa [World.setCell] using hlt, hn, q, (World.cell?_setCell_other w a ⟨b, o + i, Option.none⟩ u (fun e => by subst e; simp at ha; omega)).trans hc, hq.setCell ha u⟩
theorem OwnIntss.is {W : World} {y : Later W} {B : Nat} {v : Value} {l : List (List Int)} (h : OwnIntss y B v l) (hn : l.length ≤ 5864062014805) (hB : B ≤ W.heap.size) : IsIntssF B y.w v l := by
  obtain ⟨vs, hown, _, hvs⟩ := h
  obtain ⟨a, c, hv, _, hc⟩ := owns_cell hown
  refine ⟨a, c, hv, hn, fun i hi => ?_⟩
  obtain ⟨b, ha, hle, hb, hcell⟩ := hc i hi
  obtain ⟨u, hu, hI⟩ := hvs i hi
  exact ⟨b, 0, ha, hb, by omega, u, hcell.trans hu, hI.none⟩
theorem OwnIntss.later {W : World} {y z : Later W} {B : Nat} {v : Value} {l : List (List Int)} (h : OwnIntss y B v l) (hb : Below y.w.heap.size y.w z.w) : OwnIntss z B v l := by
  obtain ⟨vs, hown, hl, hvs⟩ := h
  exact ⟨vs, owns_later hown hb, hl, fun i hi => let ⟨u, hu, hI⟩ := hvs i hi; ⟨u, hu, hI.later hb⟩⟩
theorem OwnIntss.block {W : World} {y : Later W} {B : Nat} {v : Value} {l : List (List Int)} (h : OwnIntss y B v l) : ∀ k, v.ownBlock = some k → W.heap.size ≤ k ∧ k < y.w.heap.size := by
  obtain ⟨vs, hown, _⟩ := h; exact hown.lt
/-- '[][]int{u}' -/
theorem OwnIntss.one {W : World} (y : Later W) {B : Nat} (u : Value) (l : List Int) (h : IntsOff y.w B none u l) : ∃ z : Later W, y.w.alloc (.cells #[u] 22) = z.w ∧ OwnIntss z B (.slice (some ⟨y.w.heap.size, 0, none⟩) 1 1) [l] ∧ Below y.w.heap.size y.w z.w := by
  obtain ⟨z, hz⟩ := y.alloc (.cells #[u] 22)
  have hb : Below y.w.heap.size y.w z.w := hz ▸ below_alloc1 _ _
  refine ⟨z, hz, ⟨[u], ?_, rfl, fun i hi => ?_⟩, hb⟩
  · rw [← hz]; exact World.ownsRow_lit y.w #[u] 1 y.h.size (by unfold maxLen; omega) (by simp)
  · obtain rfl : i = 0 := by simpa using hi
    exact ⟨u, rfl, h.off hb (fun k hk => by simp only [Value.ownBlock, Option.some.injEq] at hk; omega)⟩
/-- 'out = append(out, u)' onto a row of lists -/
theorem wpList_appL {ops : Array Oper} {rest : List Oper} {o : Oper} {a : Act} {Q : Exit → Act → World → Prop} {W : World} (y : Later W) (hgd : o.guard = none) (s x : Operand) (ho : o.op = .call { callee := .builtin .append, args := #[s, x], argTypes := #[79, 79] })
    (v : Value) (l : List (List Int)) (hs : a.eval s = v) {B : Nat} (hown : OwnIntss y B v l) (u : Value) (g : List Int) (hu : IntsOff y.w B v.ownBlock u g) (hx : a.eval x = .slice (some ⟨y.w.heap.size, 0, none⟩) 1 1) (hn : l.length ≤ 65536)
    (h : ∀ v' (z : Later W), OwnIntss z B v' (l ++ [g]) → IsInts z.w u g → wpList Try.prog ops Q rest (a.put o.dst v') z.w) :
    wpList Try.prog ops Q (o :: rest) a (y.w.alloc (.cells #[u] 22)) := by
  obtain ⟨vs, how, hl, hvs⟩ := hown
  have hu1 : u.oneCell' = true := by obtain ⟨a, c, rfl, _⟩ := hu; rfl
  obtain ⟨i0, hi, hz0, hz1, hz2⟩ := info_parts Try.info22
  have hb := y.h.size
  have hb1 : Below y.w.heap.size y.w (y.w.alloc (.cells #[u] 22)) := below_alloc1 _ _
  obtain ⟨v', w', hrun, h2, h3, _, h5⟩ := run_append_own_at (P := Try.prog) (y.w.alloc (.cells #[u] 22)) W.heap.size 79 o.type 22 i0 _ 1 24 Try.underlying79 hi hz0 hz1 hz2 rfl (by decide) v l.length vs (how.alloc _) ⟨y.w.heap.size, 0, none⟩ 1 1 [u] rfl (cell_one_new _ _ _) (by simpa using hu1) (by unfold maxLen; omega) (by omega) (by simp; omega)
  obtain ⟨z, rfl⟩ := y.grown_own _ how h3
  refine wpList_plain hgd fun K hK => ?_
  unfold Oper.wp execOp
  simp only [ho, resolve, invoke, builtin, Sem.run_bind, Sem.run_pure, Result.andThen_ok, List.map_toArray, List.map_cons, List.map_nil, hs, hx, hrun]
  have hg' : v'.ownBlock = v.ownBlock ∨ ∃ k, v'.ownBlock = some k ∧ (y.w.alloc (.cells #[u] 22)).heap.size ≤ k := by
    rcases h5 with h5 | h5
    · exact .inl h5
    · exact .inr ⟨_, h5, Nat.le_refl _⟩
  have keep : ∀ q ql, IntsOff y.w B v.ownBlock q ql → IntsOff z.w B v'.ownBlock q ql := fun q ql hq => (hq.later hb1).kept h3 hg'
  refine hK _ _ (h v' z ⟨vs ++ [u], by rw [List.length_append]; exact h2, by simp [hl], fun i hi => ?_⟩ (keep u g hu).is)
  rcases Nat.lt_or_ge i l.length with h1 | h1
  · obtain ⟨q, hq, hI⟩ := hvs i h1
    exact ⟨q, by rw [List.getElem?_append_left (by omega)]; exact hq, by rw [nth_append_left h1]; exact keep _ _ hI⟩
  · obtain rfl : i = l.length := by simp at hi; omega
    exact ⟨u, by rw [List.getElem?_append_right (by omega)]; simp [hl], by rw [nth_snoc]; exact keep _ _ hu⟩

end Go.Proofs.Ytmpkbolabdmkkaa

/- THE LIST OF ALL FILLINGS, of those that agree, and the product as both texts reckon it. -/
namespace Go.Proofs.Ytmpkbolabdmkkaa

theorem valid_dim {p : Prob} (h : validP p = true) {i : Nat} (hi : i < p.opts.length) : 1 ≤ dim p i ∧ dim p i ≤ 256 := valid_opts h hi
theorem prodTo_pos {p : Prob} : ∀ k, (∀ i, i < k → 1 ≤ dim p i) → 1 ≤ prodTo p k
  | 0, _ => Nat.le_refl _
  | k + 1, h => by rw [prodTo_succ]; exact Nat.mul_pos (prodTo_pos k fun i hi => h i (by omega)) (h k (by omega))
theorem rspace_or {p : Prob} (h : ∀ i, i < p.opts.length → 1 ≤ dim p i) : ∀ k, k ≤ p.opts.length → rspaceTo p.opts k = prodTo p k ∨ (1125899906842624 < rspaceTo p.opts k ∧ 1125899906842624 < (prodTo p k : Int))
  | 0, _ => .inl rfl
  | k + 1, hk => by
    have hd := h k (by omega)
    have e : (nth p.opts k).length = dim p k := rfl
    have hge : prodTo p k ≤ prodTo p (k + 1) := by rw [prodTo_succ]; exact Nat.le_mul_of_pos_right _ hd
    unfold rspaceTo
    rcases rspace_or h k (by omega) with h1 | ⟨h1, h2⟩
    · split
      · left; rw [h1, e, prodTo_succ, Int.natCast_mul]
      · right; omega
    · rw [if_neg (by omega)]; right; omega
theorem rspace_total {p : Prob} (h : validP p = true) : rspace p = total p ∨ (1125899906842624 < rspace p ∧ 1125899906842624 < (total p : Int)) :=
  rspace_or (fun _ hi => (valid_dim h hi).1) _ (Nat.le_refl _)
theorem rspace_gt {p : Prob} (h : validP p = true) : 65536 < rspace p ↔ 65536 < total p := by
  rcases rspace_total h with h1 | ⟨h1, h2⟩ <;> omega
/-- the error of a problem of which all fillings are gone through -/
def largeE (p : Prob) : Int := if validP p = true then (if 65536 < total p then 2 else 0) else 70
theorem largeE_0 {p : Prob} : largeE p = 0 ↔ validP p = true ∧ total p ≤ 65536 := by
  unfold largeE; split
  · split <;> simp_all <;> omega
  · simp_all

/-- filling number r -/
def fill (p : Prob) (r : Nat) : List Int := unr p p.opts.length r
def fills (p : Prob) : List (List Int) := (List.range (total p)).map (fill p)
def agr (p : Prob) : List (List Int) := (fills p).filter (agreesB p)
theorem fills_len (p : Prob) : (fills p).length = total p := by simp [fills]
theorem nth_fills {p : Prob} {r : Nat} (h : r < total p) : nth (fills p) r = fill p r := by
  rw [nth_eq _ _ (by rw [fills_len]; exact h)]; simp [fills]
theorem fill_len (p : Prob) (r : Nat) : (fill p r).length = p.opts.length := unr_len p _ _
theorem fill_ok {p : Prob} (h : validP p = true) (r : Nat) : ∀ i, i < (fill p r).length → 0 ≤ nth (fill p r) i ∧ nth (fill p r) i < (nth p.opts i).length :=
  fun i hi => (unr_ok p p.opts.length r (fun _ hi => (valid_dim h hi).1)).2 i (by rwa [fill_len] at hi)
theorem fill_B {p : Prob} (h : validP p = true) (r : Nat) : fillB p (fill p r) = true := by
  rw [fillB_iff]; refine ⟨by rw [fill_len, valid_len h], fun i hi => wi_iff.2 ?_⟩
  have := fill_ok h r i hi; omega
theorem fill_next {p : Prob} (h : validP p = true) {r : Nat} (hr : r < total p) : nextF p (fill p r) = if r + 1 < total p then some (fill p (r + 1)) else none := by
  have hd : ∀ i, i < p.opts.length → 0 < dim p i := fun _ hi => (valid_dim h hi).1
  unfold nextF
  rw [fill_len, nextK_spec p _ (fill p r) (unr_ok p _ r hd)]
  have e : rankTo p (fill p r) p.opts.length = r := rank_unr p _ r hd hr
  rw [e]; rfl
theorem fill_0 (p : Prob) : fill p 0 = List.replicate p.opts.length 0 := by
  unfold fill
  generalize p.opts.length = n
  induction n with
  | zero => rfl
  | succ n ih => rw [unr_succ, Nat.zero_div, ih, Nat.zero_mod, List.replicate_succ']; rfl
theorem total_pos {p : Prob} (h : validP p = true) : 0 < total p := prodTo_pos _ fun _ hi => (valid_dim h hi).1
theorem mem_fills {p : Prob} {f : List Int} : f ∈ fills p ↔ ∃ r, r < total p ∧ f = fill p r := by
  unfold fills; rw [List.mem_map]; simp only [List.mem_range]
  exact ⟨fun ⟨r, h1, h2⟩ => ⟨r, h1, h2.symm⟩, fun ⟨r, h1, h2⟩ => ⟨r, h1, h2.symm⟩⟩
theorem agr_len (p : Prob) : (agr p).length ≤ total p := by have := List.length_filter_le (agreesB p) (fills p); rw [fills_len] at this; exact this
theorem agr_mem {p : Prob} (h : validP p = true) {f : List Int} (hf : f ∈ agr p) : fillB p f = true ∧ f.length = p.opts.length ∧ (∀ i, i < f.length → 0 ≤ nth f i ∧ nth f i < (nth p.opts i).length) ∧ agreesB p f = true := by
  unfold agr at hf
  obtain ⟨h1, h2⟩ := List.mem_filter.1 hf
  obtain ⟨r, _, rfl⟩ := mem_fills.1 h1
  exact ⟨fill_B h r, fill_len p r, fill_ok h r, h2⟩
theorem nth_mem {α : Type} [Inhabited α] {l : List α} {i : Nat} (h : i < l.length) : nth l i ∈ l := by rw [nth_eq l i h]; exact List.getElem_mem h

/-- those of the first k fillings that agree -/
def agrTo (p : Prob) (k : Nat) : List (List Int) := ((fills p).take k).filter (agreesB p)
theorem agrTo_yes {p : Prob} {k : Nat} (hk : k < (fills p).length) (h : agreesB p (nth (fills p) k) = true) : agrTo p (k + 1) = agrTo p k ++ [nth (fills p) k] := by
  unfold agrTo; rw [take_snoc_nth _ k hk, List.filter_append]; simp [h]
theorem agrTo_no {p : Prob} {k : Nat} (hk : k < (fills p).length) (h : agreesB p (nth (fills p) k) = false) : agrTo p (k + 1) = agrTo p k := by
  unfold agrTo; rw [take_snoc_nth _ k hk, List.filter_append]; simp [h]
theorem agrTo_all (p : Prob) : agrTo p (fills p).length = agr p := by unfold agrTo agr; rw [List.take_length]
theorem agrTo_len (p : Prob) (k : Nat) : (agrTo p k).length ≤ k := by
  unfold agrTo; exact Nat.le_trans (List.length_filter_le _ _) (by rw [List.length_take]; omega)

/-- the first list is before the second one, which is as long -/
def lessTo (a b : List Int) : Nat → Nat → Bool
  | 0, _ => false
  | n + 1, i => if nth a i ≠ nth b i then decide (nth a i < nth b i) else lessTo a b n (i + 1)
def lessB (a b : List Int) : Bool := lessTo a b a.length 0

/-- the first of some lists for which something holds -/
def firstOf (l : List (List Int)) (P : List Int → Bool) : Option (List Int) := l.find? P
def optL (o : Option (List Int)) : List Int := o.getD []

def firstE (p : Prob) : Int := if largeE p ≠ 0 then largeE p else if (agr p).length = 0 then 72 else 0
def firstL (p : Prob) : List Int := if firstE p = 0 then nth (agr p) 0 else []
def countV (p : Prob) : Int := if largeE p = 0 then (agr p).length else 0
def nextE (p : Prob) (f : List Int) : Int := if wrongC p f ≠ 0 then wrongC p f else if 65536 < total p then 2 else if ((agr p).find? (lessB f)).isSome then 0 else 3
def nextL (p : Prob) (f : List Int) : List Int := if nextE p f = 0 then optL ((agr p).find? (lessB f)) else []

end Go.Proofs.Ytmpkbolabdmkkaa

/- TABLES OF BOOLS that a call makes and writes. -/
namespace Go.Proofs.Ytmpkbolabdmkkaa
open Go.RowKit

theorem Try.info52 : (Try.prog.info? 52).map (fun i => (i.zero, i.size, i.bytes)) = some (some (.slice none 0 0), 1, 24) := by kernel_rfl

/-- t with place (i, k) set -/
def setTab (t : List (List Bool)) (i k : Nat) (b : Bool) : List (List Bool) := t.set i ((nth t i).set k b)
theorem setTab_len (t : List (List Bool)) (i k : Nat) (b : Bool) : (setTab t i k b).length = t.length := by simp [setTab]
theorem nth_set_same {α : Type} [Inhabited α] {l : List α} {i : Nat} (h : i < l.length) (x : α) : nth (l.set i x) i = x := by
  rw [nth_eq _ _ (by simpa using h)]; simp
theorem nth_set_other {α : Type} [Inhabited α] {l : List α} {i j : Nat} (h : j ≠ i) (x : α) : nth (l.set i x) j = nth l j := by
  unfold nth; rw [List.getD_eq_getElem?_getD, List.getD_eq_getElem?_getD, List.getElem?_set_ne (Ne.symm h)]
theorem nth_setTab_same {t : List (List Bool)} {i : Nat} (hi : i < t.length) (k : Nat) (b : Bool) : nth (setTab t i k b) i = (nth t i).set k b := nth_set_same hi _
theorem nth_setTab_other {t : List (List Bool)} {i j : Nat} (h : j ≠ i) (k : Nat) (b : Bool) : nth (setTab t i k b) j = nth t j := nth_set_other h _

/-- a table of the call's own: a row of rows, all of the call's own, apart from each other -/
structure OwnTab {W : World} (y : Later W) (v : Value) (t : List (List Bool)) (vs : List Value) : Prop where
  outer : y.w.ownsRow W.heap.size 52 1 v t.length vs
  len : vs.length = t.length
  rows : ∀ i, i < t.length → ∃ u, vs[i]? = some u ∧ y.w.ownsRow W.heap.size 4 1 u (nth t i).length ((nth t i).map Value.bool)
  apart : ∀ i j : Nat, i < j → ∀ u u' : Value, vs[i]? = some u → vs[j]? = some u' → ∀ b b', u.ownBlock = some b → u'.ownBlock = some b' → b < b'

theorem own_block_ne {w : World} {B B' e e' : Nat} {sz sz' n n' : Nat} {v v' : Value} {xs xs' : List Value} (h : w.ownsRow B e sz v n xs) (h' : w.ownsRow B' e' sz' v' n' xs') (hne : e ≠ e') : ∀ b, v.ownBlock = some b → v'.ownBlock ≠ some b := by
  intro b hb hb'
  rcases h.2 with ⟨rfl, _⟩ | ⟨g, cap, cur, rfl, _, hg, _⟩
  · cases hb
  rcases h'.2 with ⟨rfl, _⟩ | ⟨g', cap', cur', rfl, _, hg', _⟩
  · cases hb'
  simp only [Value.ownBlock, Option.some.injEq] at hb hb'
  subst hb
  subst hb'
  rw [hg] at hg'
  cases hg'
  exact hne rfl

theorem OwnTab.nil {W : World} (y : Later W) : OwnTab y (.slice none 0 0) [] [] :=
  ⟨World.ownsRow_nil _ _ _ _, rfl, fun _ h => absurd h (Nat.not_lt_zero _), fun _ _ _ _ _ h => by cases h⟩
theorem OwnTab.is {W : World} {y : Later W} {v : Value} {t : List (List Bool)} {vs : List Value} (h : OwnTab y v t vs) (hn : t.length ≤ 5864062014805) (hr : ∀ i, i < t.length → (nth t i).length ≤ 140737488355328) : IsBoolss y.w v t := by
  obtain ⟨a, c, hv, _, hc⟩ := owns_cell h.outer
  refine ⟨a, c, hv, hn, fun i hi => ?_⟩
  obtain ⟨b, ha, _, hb, hcell⟩ := hc i hi
  obtain ⟨u, hu, hI⟩ := h.rows i hi
  exact ⟨b, 0, ha, hb, u, hcell.trans hu, isBools_of_owns hI (hr i hi)⟩
theorem OwnTab.later {W : World} {y z : Later W} {v : Value} {t : List (List Bool)} {vs : List Value} (h : OwnTab y v t vs) (hb : Below y.w.heap.size y.w z.w) : OwnTab z v t vs :=
  ⟨owns_later h.outer hb, h.len, fun i hi => let ⟨u, hu, hI⟩ := h.rows i hi; ⟨u, hu, owns_later hI hb⟩, h.apart⟩
theorem OwnTab.slice {W : World} {y : Later W} {v : Value} {t : List (List Bool)} {vs : List Value} (h : OwnTab y v t vs) : ∃ a c, v = .slice a t.length c := owns_slice h.outer

/-- 'out = append(out, row)': the row was made after all others -/
theorem wpList_appTab {ops : Array Oper} {rest : List Oper} {o : Oper} {a : Act} {Q : Exit → Act → World → Prop} {W : World} (y : Later W) (hgd : o.guard = none) (s x : Operand) (ho : o.op = .call { callee := .builtin .append, args := #[s, x], argTypes := #[48, 48] })
    (v : Value) (t : List (List Bool)) (vs : List Value) (hs : a.eval s = v) (hown : OwnTab y v t vs) (u : Value) (g : List Bool) (B : Nat) (hB : W.heap.size ≤ B) (hu : y.w.ownsRow B 4 1 u g.length (g.map Value.bool))
    (hlt : ∀ (i : Nat) (q : Value) (b : Nat), vs[i]? = some q → q.ownBlock = some b → b < B) (hx : a.eval x = .slice (some ⟨y.w.heap.size, 0, none⟩) 1 1) (hn : t.length ≤ 65536)
    (h : ∀ v' (z : Later W), OwnTab z v' (t ++ [g]) (vs ++ [u]) → wpList Try.prog ops Q rest (a.put o.dst v') z.w) :
    wpList Try.prog ops Q (o :: rest) a (y.w.alloc (.cells #[u] 52)) := by
  have hu1 : u.oneCell' = true := by obtain ⟨A, c, rfl⟩ := owns_slice hu; rfl
  refine wpList_app1 y 48 52 _ 24 Try.info52 rfl Try.underlying48 hgd s x ho v t.length vs hs hown.outer u hx hu1 (by omega) (by omega) fun v' z hown' hg => ?_
  have hb1 : Below y.w.heap.size y.w (y.w.alloc (.cells #[u] 52)) := below_alloc1 _ _
  have keep : ∀ {B' n : Nat} {q : Value} {xs : List Value}, y.w.ownsRow B' 4 1 q n xs → z.w.ownsRow B' 4 1 q n xs := fun hq => by
    refine (owns_later hq hb1).kept hg ?_
    cases hq' : v.ownBlock with
    | none =>
      cases hqb : Value.ownBlock _ with
      | none => exact .inl rfl
      | some b => exact .inr (by simp)
    | some b => exact .inr (own_block_ne hown.outer hq (by decide) b hq')
  refine h v' z ⟨by rw [List.length_append]; exact hown', by simp [hown.len], fun i hi => ?_, fun i j hij q q' hq hq' b b' hb hb' => ?_⟩
  · rcases Nat.lt_or_ge i t.length with h1 | h1
    · obtain ⟨q, hq, hI⟩ := hown.rows i h1
      exact ⟨q, by rw [List.getElem?_append_left (by rw [hown.len]; omega)]; exact hq, by rw [nth_append_left h1]; exact keep hI⟩
    · obtain rfl : i = t.length := by simp at hi; omega
      exact ⟨u, by rw [List.getElem?_append_right (by rw [hown.len]; omega)]; simp [hown.len], by rw [nth_snoc]; exact owns_mono (keep hu) hB⟩
  · have hj : j < (vs ++ [u]).length := (List.getElem?_eq_some_iff.1 hq').1
    have hi : i < vs.length := by simp at hj; omega
    rw [List.getElem?_append_left hi] at hq
    rcases Nat.lt_or_ge j vs.length with h1 | h1
    · rw [List.getElem?_append_left h1] at hq'
      exact hown.apart i j hij q q' hq hq' b b' hb hb'
    · rw [List.getElem?_append_right h1] at hq'
      obtain rfl : j = vs.length := by simp at hj; omega
      simp at hq'
      subst hq'
      have := hlt i q b hq hb
      have := (hu.lt b' hb').1
      omega

/-- the table, opened at row i and place k, and written there -/
theorem OwnTab.at_ {W : World} {y : Later W} {v : Value} {t : List (List Bool)} {vs : List Value} (h : OwnTab y v t vs) {i : Nat} (hi : i < t.length) :
    ∃ g c u, v = .slice (some ⟨g, 0, none⟩) t.length c ∧ g < y.w.heap.size ∧ vs[i]? = some u ∧ y.w.cell? ⟨g, i, none⟩ = some u ∧ y.w.ownsRow W.heap.size 4 1 u (nth t i).length ((nth t i).map Value.bool) ∧
      ∀ k, k < (nth t i).length → ∃ g' c', u = .slice (some ⟨g', 0, none⟩) (nth t i).length c' ∧ g' < y.w.heap.size ∧ y.w.cell? ⟨g', k, none⟩ = some (.bool (nth (nth t i) k)) ∧ y.w.frozen? ⟨g', k, none⟩ = false ∧
        ∀ b, ∃ z : Later W, y.w.setCell ⟨g', k, none⟩ (.bool b) = z.w ∧ OwnTab z v (setTab t i k b) vs := by
  obtain ⟨g, c, rfl, _, hg⟩ := owns_head h.outer (by omega)
  obtain ⟨u, hu, hI⟩ := h.rows i hi
  obtain ⟨d0, _, _, _⟩ := owns_at y h.outer i hi
  refine ⟨g, c, u, rfl, hg, hu, d0.trans hu, hI, fun k hk => ?_⟩
  obtain ⟨g', c', rfl, _, hg'⟩ := owns_head hI (by omega)
  obtain ⟨e0, e1, _, e3⟩ := owns_at y hI k hk
  refine ⟨g', c', rfl, hg', ?_, e1, fun b => ?_⟩
  · rw [e0, nth_eq _ k hk]; simp [hk]
  · obtain ⟨z, hz, hr, hgr⟩ := e3 (.bool b)
    have hne : ∀ j q, vs[j]? = some q → j ≠ i → q.ownBlock ≠ some g' := by
      intro j q hq hji hqb
      have hb' : (Value.slice (some ⟨g', 0, none⟩) (nth t i).length c').ownBlock = some g' := rfl
      rcases Nat.lt_or_ge j i with h1 | h1
      · have := h.apart j i h1 q _ hq hu g' g' hqb hb'; omega
      · have := h.apart i j (by omega) _ q hu hq g' g' hb' hqb; omega
    refine ⟨z, hz, ⟨by rw [setTab_len]; exact h.outer.kept hgr (.inr (fun e => own_block_ne h.outer hI (by decide) g' e rfl)), by rw [setTab_len]; exact h.len, fun j hj => ?_, h.apart⟩⟩
    rw [setTab_len] at hj
    by_cases hji : j = i
    · subst hji
      refine ⟨_, hu, ?_⟩
      rw [nth_setTab_same hi, List.length_set]
      have e : ((nth t j).set k b).map Value.bool = ((nth t j).map Value.bool).set k (.bool b) := by rw [List.map_set]
      rw [e]; exact hr
    · obtain ⟨q, hq, hq'⟩ := h.rows j hj
      refine ⟨q, hq, ?_⟩
      rw [nth_setTab_other hji]
      exact hq'.kept hgr (.inr (hne j q hq hji))
end Go.Proofs.Ytmpkbolabdmkkaa

/- TABLES AND FIRST ONES, as plain functions. -/
namespace Go.Proofs.Ytmpkbolabdmkkaa
open Go.RowKit

/-- a table of b, a row a pane -/
def fullTo (p : Prob) (b : Bool) (k : Nat) : List (List Bool) := (p.opts.take k).map fun l => List.replicate l.length b
def fullTab (p : Prob) (b : Bool) : List (List Bool) := fullTo p b p.opts.length
theorem fullTo_len (p : Prob) (b : Bool) {k : Nat} (hk : k ≤ p.opts.length) : (fullTo p b k).length = k := by simp [fullTo]; omega
theorem fullTo_succ (p : Prob) (b : Bool) {k : Nat} (hk : k < p.opts.length) : fullTo p b (k + 1) = fullTo p b k ++ [List.replicate (nth p.opts k).length b] := by
  unfold fullTo; rw [take_snoc_nth _ k hk, List.map_append]; rfl
theorem nth_fullTo (p : Prob) (b : Bool) : ∀ {k : Nat}, k ≤ p.opts.length → ∀ {i : Nat}, i < k → nth (fullTo p b k) i = List.replicate (nth p.opts i).length b
  | 0, _, i, h => absurd h (Nat.not_lt_zero _)
  | k + 1, hk, i, h => by
    rw [fullTo_succ p b hk]
    rcases Nat.lt_succ_iff_lt_or_eq.1 h with h1 | rfl
    · rw [nth_append_left (by rw [fullTo_len p b (by omega)]; exact h1)]; exact nth_fullTo p b (by omega) h1
    · have := nth_snoc (fullTo p b i) (List.replicate (nth p.opts i).length b)
      rwa [fullTo_len p b (by omega)] at this

/-- t with the first k choices of f marked -/
def markTo (t : List (List Bool)) (f : List Int) : Nat → List (List Bool)
  | 0 => t
  | k + 1 => setTab (markTo t f k) k (nth f k).toNat true
/-- t with the choices of the first k lists marked -/
def marksTo (t : List (List Bool)) (l : List (List Int)) (n : Nat) : Nat → List (List Bool)
  | 0 => t
  | k + 1 => markTo (marksTo t l n k) (nth l k) n
theorem markTo_shape (t : List (List Bool)) (f : List Int) : ∀ k, (markTo t f k).length = t.length ∧ ∀ i, (nth (markTo t f k) i).length = (nth t i).length
  | 0 => ⟨rfl, fun _ => rfl⟩
  | k + 1 => by
    obtain ⟨h1, h2⟩ := markTo_shape t f k
    refine ⟨by unfold markTo; rw [setTab_len, h1], fun i => ?_⟩
    unfold markTo
    by_cases hi : i = k
    · subst hi
      by_cases hlt : i < (markTo t f i).length
      · rw [nth_setTab_same hlt, List.length_set, h2]
      · have e : nth (setTab (markTo t f i) i (nth f i).toNat true) i = nth (markTo t f i) i := by unfold setTab; rw [List.set_eq_of_length_le (by omega)]
        rw [e, h2]
    · rw [nth_setTab_other hi, h2]
theorem marksTo_shape (t : List (List Bool)) (l : List (List Int)) (n : Nat) : ∀ k, (marksTo t l n k).length = t.length ∧ ∀ i, (nth (marksTo t l n k) i).length = (nth t i).length
  | 0 => ⟨rfl, fun _ => rfl⟩
  | k + 1 => by
    obtain ⟨h1, h2⟩ := marksTo_shape t l n k
    obtain ⟨h3, h4⟩ := markTo_shape (marksTo t l n k) (nth l k) n
    exact ⟨h3.trans h1, fun i => (h4 i).trans (h2 i)⟩
/-- which options are possible -/
def possT (p : Prob) : List (List Bool) := marksTo (fullTab p false) (agr p) p.opts.length (agr p).length
def possL (p : Prob) : List (List Bool) := if largeE p = 0 then possT p else []

theorem OwnTab.down {W W1 : World} {y : Later W1} {v : Value} {t : List (List Bool)} {vs : List Value} (hb : Below W.heap.size W W1) (h : OwnTab y v t vs) : ∃ z : Later W, y.w = z.w ∧ OwnTab z v t vs := by
  obtain ⟨z, hz⟩ := y.down hb
  exact ⟨z, hz, ⟨hz ▸ owns_mono h.outer hb.size, h.len, fun i hi => let ⟨u, hu, hI⟩ := h.rows i hi; ⟨u, hu, hz ▸ owns_mono hI hb.size⟩, h.apart⟩⟩
theorem OwnTab.block {W : World} {y : Later W} {v : Value} {t : List (List Bool)} {vs : List Value} (h : OwnTab y v t vs) : ∀ (i : Nat) (q : Value) (b : Nat), vs[i]? = some q → q.ownBlock = some b → b < y.w.heap.size := by
  intro i q b hq hb
  have hi : i < t.length := by rw [← h.len]; exact (List.getElem?_eq_some_iff.1 hq).1
  obtain ⟨u, hu, hI⟩ := h.rows i hi
  rw [hq] at hu; cases hu
  exact (hI.lt b hb).2
theorem isBoolss_nil (w : World) : IsBoolss w (.slice none 0 0) [] := ⟨none, 0, rfl, by simp, fun _ h => absurd h (Nat.not_lt_zero _)⟩

/-- HOW A CALL ENDS that hands back a table of its own -/
def EndsTab (W : World) (t : List (List Bool)) (e : Ending) (w' : World) : Prop := ∃ v, e = .returned v ∧ ∃ y : Later W, w' = y.w ∧ ∃ vs, OwnTab y v t vs
def EndsTabE (W : World) (t : List (List Bool)) (n : Int) (e : Ending) (w' : World) : Prop := ∃ v, e = .returned (.tuple #[v, .int .i64 n]) ∧ ∃ y : Later W, w' = y.w ∧ IsBoolss y.w v t

end Go.Proofs.Ytmpkbolabdmkkaa

/- WITNESSES, NEXT FILLINGS, WHERE, FORCED, as plain functions. -/
namespace Go.Proofs.Ytmpkbolabdmkkaa

theorem find_at {l : List (List Int)} {P : List Int → Bool} : ∀ {k : Nat}, k < l.length → P (nth l k) = true → (∀ i, i < k → P (nth l i) = false) → l.find? P = some (nth l k) := by
  induction l with
  | nil => intro k h; exact absurd h (Nat.not_lt_zero _)
  | cons a l ih =>
    intro k hk hp hn
    cases k with
    | zero => rw [List.find?_cons]; have : nth (a :: l) 0 = a := rfl; rw [this] at hp ⊢; rw [hp]
    | succ k =>
      have h0 := hn 0 (by omega)
      have e0 : nth (a :: l) 0 = a := rfl
      have e1 : ∀ i, nth (a :: l) (i + 1) = nth l i := fun i => by unfold nth; simp [List.getD]
      rw [e0] at h0
      rw [List.find?_cons, h0, e1]
      exact ih (by simpa using hk) (by rw [← e1]; exact hp) (fun i hi => by rw [← e1]; exact hn (i + 1) (by omega))
theorem find_none {l : List (List Int)} {P : List Int → Bool} (h : ∀ i, i < l.length → P (nth l i) = false) : l.find? P = none := by
  rw [List.find?_eq_none]
  intro x hx
  obtain ⟨i, hi, rfl⟩ := List.getElem_of_mem hx
  have := h i hi
  rw [nth_eq l i hi] at this
  simp [this]

theorem lessTo_yes {a b : List Int} : ∀ {n i : Nat}, nth a i ≠ nth b i → lessTo a b (n + 1) i = decide (nth a i < nth b i) := fun h => by show (if _ then _ else _) = _; rw [if_pos h]
theorem lessTo_no {a b : List Int} : ∀ {n i : Nat}, nth a i = nth b i → lessTo a b (n + 1) i = lessTo a b n (i + 1) := fun h => by show (if _ then _ else _) = _; rw [if_neg (by simpa using h)]

/-- a problem has a pane with an option -/
def thereB (p : Prob) (pane o : Int) : Bool := wi pane 0 ((p.panes.length : Int) - 1) && wi o 0 (((nth p.opts pane.toNat).length : Int) - 1)
def hasB (pane o : Int) (f : List Int) : Bool := nth f pane.toNat == o
def witE (p : Prob) (pane o : Int) : Int := if validP p = false then 70 else if thereB p pane o = false then 1 else if 65536 < total p then 2 else if ((agr p).find? (hasB pane o)).isSome then 0 else 3
def witL (p : Prob) (pane o : Int) : List Int := if witE p pane o = 0 then optL ((agr p).find? (hasB pane o)) else []

/-- a filling lays a piece in pane i -/
def usesAt (p : Prob) (f : List Int) (piece : Int) (i : Nat) : Bool := pieceAt p f i == piece
/-- .. in some pane -/
def usesAny (p : Prob) (f : List Int) (piece : Int) : Bool := decide (∃ i, i < f.length ∧ usesAt p f piece i = true)
/-- what 'uses' answers: pane -1: any -/
def usesB (p : Prob) (f : List Int) (pane piece : Int) : Bool := decide (∃ i, i < f.length ∧ (pane < 0 ∨ pane = i) ∧ pieceAt p f i = piece)
theorem usesB_yes {p : Prob} {f : List Int} {pane piece : Int} {i : Nat} (hi : i < f.length) (h : pane < 0 ∨ pane = i) (h' : pieceAt p f i = piece) : usesB p f pane piece = true := by
  unfold usesB; rw [decide_eq_true_iff]; exact ⟨i, hi, h, h'⟩
theorem usesB_no {p : Prob} {f : List Int} {pane piece : Int} (h : ∀ i, i < f.length → ¬ ((pane < 0 ∨ pane = i) ∧ pieceAt p f i = piece)) : usesB p f pane piece = false := by
  unfold usesB; rw [decide_eq_false_iff_not]; rintro ⟨i, hi, h'⟩; exact h i hi h'
def foundTo (p : Prob) (piece : Int) (k : Nat) : Nat → Bool
  | 0 => false
  | n + 1 => foundTo p piece k n || usesB p (nth (agr p) n) k piece
def nowTo (p : Prob) (piece : Int) : Nat → Bool
  | 0 => false
  | n + 1 => nowTo p piece n || !usesB p (nth (agr p) n) (-1) piece
def whereTo (p : Prob) (piece : Int) : Nat → List Int
  | 0 => []
  | k + 1 => if foundTo p piece k (agr p).length = true then whereTo p piece k ++ [nth p.panes k] else whereTo p piece k
theorem whereTo_len (p : Prob) (piece : Int) : ∀ k, (whereTo p piece k).length ≤ k
  | 0 => Nat.le_refl _
  | k + 1 => by unfold whereTo; have := whereTo_len p piece k; split <;> simp <;> omega
def whereE (p : Prob) (piece : Int) : Int := if validP p = false then 70 else if wi piece 1 65535 = false then 1 else if 65536 < total p then 2 else 0
def whereL (p : Prob) (piece : Int) : List Int := if whereE p piece = 0 then whereTo p piece p.panes.length else []
def nowB (p : Prob) (piece : Int) : Bool := decide (whereE p piece = 0) && nowTo p piece (agr p).length

/-- the first agreeing filling, -1 where one of the first k agreeing ones differs -/
def forcedAt (p : Prob) (n k : Nat) : Int := if ∀ i, i < n → nth (nth (agr p) i) k = nth (firstL p) k then nth (firstL p) k else -1
/-- the list of it, the first m panes having gone through one list more than n -/
def forcedL (p : Prob) (n m : Nat) : List Int := (List.range p.opts.length).map fun k => if k < m then forcedAt p (n + 1) k else forcedAt p n k
def forcedR (p : Prob) : List Int := if firstE p = 0 then forcedL p (agr p).length 0 else []
theorem forcedL_len (p : Prob) (n m : Nat) : (forcedL p n m).length = p.opts.length := by simp [forcedL]
theorem nth_forcedL {p : Prob} {n m k : Nat} (h : k < p.opts.length) : nth (forcedL p n m) k = if k < m then forcedAt p (n + 1) k else forcedAt p n k := by
  rw [nth_eq _ _ (by rw [forcedL_len]; exact h)]; simp [forcedL]
theorem forcedL_start {p : Prob} (h : (firstL p).length = p.opts.length) : forcedL p 0 0 = firstL p := by
  refine ext_nth (by rw [forcedL_len, h]) fun i hi => ?_
  rw [forcedL_len] at hi
  rw [nth_forcedL hi, if_neg (by omega)]
  unfold forcedAt; rw [if_pos (fun _ h => absurd h (Nat.not_lt_zero _))]
theorem forcedL_row (p : Prob) (n : Nat) : forcedL p n p.opts.length = forcedL p (n + 1) 0 := by
  refine ext_nth (by rw [forcedL_len, forcedL_len]) fun i hi => ?_
  rw [forcedL_len] at hi
  rw [nth_forcedL hi, nth_forcedL hi, if_pos hi, if_neg (by omega)]
theorem forcedAt_or (p : Prob) (n k : Nat) : forcedAt p n k = nth (firstL p) k ∨ forcedAt p n k = -1 := by unfold forcedAt; split <;> simp
/-- one place on: unchanged where the list has what is kept there -/
theorem forcedAt_same {p : Prob} {n k : Nat} (h : nth (nth (agr p) n) k = forcedAt p n k) (h0 : 0 ≤ nth (nth (agr p) n) k) : forcedAt p (n + 1) k = forcedAt p n k := by
  have h1 : forcedAt p n k = nth (firstL p) k := by rcases forcedAt_or p n k with h1 | h1 <;> omega
  by_cases hc : ∀ i, i < n → nth (nth (agr p) i) k = nth (firstL p) k
  · unfold forcedAt
    rw [if_pos hc, if_pos]
    exact all_step hc (by rw [h, h1])
  · have : forcedAt p n k = -1 := by unfold forcedAt; rw [if_neg hc]
    omega
theorem forcedAt_other {p : Prob} {n k : Nat} (h : nth (nth (agr p) n) k ≠ forcedAt p n k) : forcedAt p (n + 1) k = -1 := by
  unfold forcedAt
  rw [if_neg]
  intro hc
  apply h
  have : forcedAt p n k = nth (firstL p) k := by unfold forcedAt; rw [if_pos (fun i hi => hc i (by omega))]
  rw [this]; exact hc n (by omega)
theorem forcedL_same {p : Prob} {n m : Nat} (hm : m < p.opts.length) (h : nth (nth (agr p) n) m = forcedAt p n m) (h0 : 0 ≤ nth (nth (agr p) n) m) : forcedL p n (m + 1) = forcedL p n m := by
  refine ext_nth (by rw [forcedL_len, forcedL_len]) fun i hi => ?_
  rw [forcedL_len] at hi
  rw [nth_forcedL hi, nth_forcedL hi]
  by_cases e : i = m
  · subst e; rw [if_pos (by omega), if_neg (by omega)]; exact forcedAt_same h h0
  · by_cases hlt : i < m
    · rw [if_pos (by omega), if_pos hlt]
    · rw [if_neg (by omega), if_neg hlt]
theorem forcedL_set {p : Prob} {n m : Nat} (hm : m < p.opts.length) (h : nth (nth (agr p) n) m ≠ forcedAt p n m) : forcedL p n (m + 1) = (forcedL p n m).set m (-1) := by
  refine ext_nth (by rw [List.length_set, forcedL_len, forcedL_len]) fun i hi => ?_
  rw [forcedL_len] at hi
  rw [nth_forcedL hi]
  by_cases e : i = m
  · subst e; rw [if_pos (by omega), nth_set_same (by rw [forcedL_len]; exact hm)]; exact forcedAt_other h
  · rw [nth_set_other e, nth_forcedL hi]
    by_cases hlt : i < m
    · rw [if_pos (by omega), if_pos hlt]
    · rw [if_neg (by omega), if_neg hlt]
theorem firstL_0 {p : Prob} (h : firstE p = 0) : firstL p = nth (agr p) 0 := by unfold firstL; rw [if_pos h]
theorem firstE_0 {p : Prob} (h : firstE p = 0) : largeE p = 0 ∧ 0 < (agr p).length ∧ firstL p = nth (agr p) 0 := by
  have hL := firstL_0 h
  have hl : largeE p = 0 := by
    rcases Classical.em (largeE p = 0) with h1 | h1
    · exact h1
    · unfold firstE at h; rw [if_pos h1] at h; exact absurd h h1
  unfold firstE at h
  rw [if_neg (by simp [hl])] at h
  have hn : (agr p).length ≠ 0 := fun h1 => by rw [if_pos h1] at h; cases h
  exact ⟨hl, by omega, hL⟩
end Go.Proofs.Ytmpkbolabdmkkaa

/- TWO PARAMETERS laid in memory of their own. -/
namespace Go.Proofs.Ytmpkbolabdmkkaa
open Go.RowKit

theorem enter77 {W : World} (x : Later W) (u0 u1 u2 u3 u4 u5 u6 v0 v1 v2 v3 v4 v5 v6 : Value) (S T : TypeId) : ∃ (W1 : World) (x1 : Later W1), (x.w.alloc (.cells #[u0, u1, u2, u3, u4, u5, u6] S)).alloc (.cells #[v0, v1, v2, v3, v4, v5, v6] T) = x1.w ∧ Below W.heap.size W W1 ∧
    ((∀ y : Later W1, x.w.heap.size < y.w.heap.size) ∧ (∀ y : Later W1, x.w.heap.size + 1 < y.w.heap.size)) ∧
    ((∀ y : Later W1, y.w.cell? ⟨x.w.heap.size, 0, none⟩ = some u0) ∧ (∀ y : Later W1, y.w.cell? ⟨x.w.heap.size, 1, none⟩ = some u1) ∧ (∀ y : Later W1, y.w.cell? ⟨x.w.heap.size, 2, none⟩ = some u2) ∧ (∀ y : Later W1, y.w.cell? ⟨x.w.heap.size, 3, none⟩ = some u3) ∧ (∀ y : Later W1, y.w.cell? ⟨x.w.heap.size, 4, none⟩ = some u4) ∧ (∀ y : Later W1, y.w.cell? ⟨x.w.heap.size, 5, none⟩ = some u5) ∧ (∀ y : Later W1, y.w.cell? ⟨x.w.heap.size, 6, none⟩ = some u6)) ∧
    (∀ y : Later W1, y.w.cell? ⟨x.w.heap.size + 1, 0, none⟩ = some v0) ∧ (∀ y : Later W1, y.w.cell? ⟨x.w.heap.size + 1, 1, none⟩ = some v1) ∧ (∀ y : Later W1, y.w.cell? ⟨x.w.heap.size + 1, 2, none⟩ = some v2) ∧ (∀ y : Later W1, y.w.cell? ⟨x.w.heap.size + 1, 3, none⟩ = some v3) ∧ (∀ y : Later W1, y.w.cell? ⟨x.w.heap.size + 1, 4, none⟩ = some v4) ∧ (∀ y : Later W1, y.w.cell? ⟨x.w.heap.size + 1, 5, none⟩ = some v5) ∧ (∀ y : Later W1, y.w.cell? ⟨x.w.heap.size + 1, 6, none⟩ = some v6) := by
  have hs : x.w.heap.size < ((x.w.alloc (.cells #[u0, u1, u2, u3, u4, u5, u6] S)).alloc (.cells #[v0, v1, v2, v3, v4, v5, v6] T)).heap.size := by simp; omega
  have hs' : x.w.heap.size + 1 < ((x.w.alloc (.cells #[u0, u1, u2, u3, u4, u5, u6] S)).alloc (.cells #[v0, v1, v2, v3, v4, v5, v6] T)).heap.size := by simp
  have f1 : ∀ i, ((x.w.alloc (.cells #[u0, u1, u2, u3, u4, u5, u6] S)).alloc (.cells #[v0, v1, v2, v3, v4, v5, v6] T)).cell? ⟨x.w.heap.size, i, none⟩ = #[u0, u1, u2, u3, u4, u5, u6][i]? := fun i => (World.cell?_alloc_past _ _ i (by simp)).trans (World.cell?_alloc_at _ S _ i rfl)
  have f2 : ∀ i, ((x.w.alloc (.cells #[u0, u1, u2, u3, u4, u5, u6] S)).alloc (.cells #[v0, v1, v2, v3, v4, v5, v6] T)).cell? ⟨x.w.heap.size + 1, i, none⟩ = #[v0, v1, v2, v3, v4, v5, v6][i]? := fun i => World.cell?_alloc_at _ T _ i (by simp)
  exact ⟨_, Later.now _, rfl, (x.h.alloc x.h.size _).alloc (by have := x.h.size; simp; omega) _, ⟨Later.size hs, Later.size hs'⟩, ⟨Later.cell hs (f1 0), Later.cell hs (f1 1), Later.cell hs (f1 2), Later.cell hs (f1 3), Later.cell hs (f1 4), Later.cell hs (f1 5), Later.cell hs (f1 6)⟩, Later.cell hs' (f2 0), Later.cell hs' (f2 1), Later.cell hs' (f2 2), Later.cell hs' (f2 3), Later.cell hs' (f2 4), Later.cell hs' (f2 5), Later.cell hs' (f2 6)⟩

theorem enter33 {W : World} (x : Later W) (u0 u1 u2 v0 v1 v2 : Value) (S T : TypeId) : ∃ (W1 : World) (x1 : Later W1), (x.w.alloc (.cells #[u0, u1, u2] S)).alloc (.cells #[v0, v1, v2] T) = x1.w ∧ Below W.heap.size W W1 ∧
    ((∀ y : Later W1, x.w.heap.size < y.w.heap.size) ∧ (∀ y : Later W1, x.w.heap.size + 1 < y.w.heap.size)) ∧
    ((∀ y : Later W1, y.w.cell? ⟨x.w.heap.size, 0, none⟩ = some u0) ∧ (∀ y : Later W1, y.w.cell? ⟨x.w.heap.size, 1, none⟩ = some u1) ∧ (∀ y : Later W1, y.w.cell? ⟨x.w.heap.size, 2, none⟩ = some u2)) ∧
    (∀ y : Later W1, y.w.cell? ⟨x.w.heap.size + 1, 0, none⟩ = some v0) ∧ (∀ y : Later W1, y.w.cell? ⟨x.w.heap.size + 1, 1, none⟩ = some v1) ∧ (∀ y : Later W1, y.w.cell? ⟨x.w.heap.size + 1, 2, none⟩ = some v2) := by
  have hs : x.w.heap.size < ((x.w.alloc (.cells #[u0, u1, u2] S)).alloc (.cells #[v0, v1, v2] T)).heap.size := by simp; omega
  have hs' : x.w.heap.size + 1 < ((x.w.alloc (.cells #[u0, u1, u2] S)).alloc (.cells #[v0, v1, v2] T)).heap.size := by simp
  have f1 : ∀ i, ((x.w.alloc (.cells #[u0, u1, u2] S)).alloc (.cells #[v0, v1, v2] T)).cell? ⟨x.w.heap.size, i, none⟩ = #[u0, u1, u2][i]? := fun i => (World.cell?_alloc_past _ _ i (by simp)).trans (World.cell?_alloc_at _ S _ i rfl)
  have f2 : ∀ i, ((x.w.alloc (.cells #[u0, u1, u2] S)).alloc (.cells #[v0, v1, v2] T)).cell? ⟨x.w.heap.size + 1, i, none⟩ = #[v0, v1, v2][i]? := fun i => World.cell?_alloc_at _ T _ i (by simp)
  exact ⟨_, Later.now _, rfl, (x.h.alloc x.h.size _).alloc (by have := x.h.size; simp; omega) _, ⟨Later.size hs, Later.size hs'⟩, ⟨Later.cell hs (f1 0), Later.cell hs (f1 1), Later.cell hs (f1 2)⟩, Later.cell hs' (f2 0), Later.cell hs' (f2 1), Later.cell hs' (f2 2)⟩

theorem enter44 {W : World} (x : Later W) (u0 u1 u2 u3 v0 v1 v2 v3 : Value) (S T : TypeId) : ∃ (W1 : World) (x1 : Later W1), (x.w.alloc (.cells #[u0, u1, u2, u3] S)).alloc (.cells #[v0, v1, v2, v3] T) = x1.w ∧ Below W.heap.size W W1 ∧
    ((∀ y : Later W1, x.w.heap.size < y.w.heap.size) ∧ (∀ y : Later W1, x.w.heap.size + 1 < y.w.heap.size)) ∧
    ((∀ y : Later W1, y.w.cell? ⟨x.w.heap.size, 0, none⟩ = some u0) ∧ (∀ y : Later W1, y.w.cell? ⟨x.w.heap.size, 1, none⟩ = some u1) ∧ (∀ y : Later W1, y.w.cell? ⟨x.w.heap.size, 2, none⟩ = some u2) ∧ (∀ y : Later W1, y.w.cell? ⟨x.w.heap.size, 3, none⟩ = some u3)) ∧
    (∀ y : Later W1, y.w.cell? ⟨x.w.heap.size + 1, 0, none⟩ = some v0) ∧ (∀ y : Later W1, y.w.cell? ⟨x.w.heap.size + 1, 1, none⟩ = some v1) ∧ (∀ y : Later W1, y.w.cell? ⟨x.w.heap.size + 1, 2, none⟩ = some v2) ∧ (∀ y : Later W1, y.w.cell? ⟨x.w.heap.size + 1, 3, none⟩ = some v3) := by
  have hs : x.w.heap.size < ((x.w.alloc (.cells #[u0, u1, u2, u3] S)).alloc (.cells #[v0, v1, v2, v3] T)).heap.size := by simp; omega
  have hs' : x.w.heap.size + 1 < ((x.w.alloc (.cells #[u0, u1, u2, u3] S)).alloc (.cells #[v0, v1, v2, v3] T)).heap.size := by simp
  have f1 : ∀ i, ((x.w.alloc (.cells #[u0, u1, u2, u3] S)).alloc (.cells #[v0, v1, v2, v3] T)).cell? ⟨x.w.heap.size, i, none⟩ = #[u0, u1, u2, u3][i]? := fun i => (World.cell?_alloc_past _ _ i (by simp)).trans (World.cell?_alloc_at _ S _ i rfl)
  have f2 : ∀ i, ((x.w.alloc (.cells #[u0, u1, u2, u3] S)).alloc (.cells #[v0, v1, v2, v3] T)).cell? ⟨x.w.heap.size + 1, i, none⟩ = #[v0, v1, v2, v3][i]? := fun i => World.cell?_alloc_at _ T _ i (by simp)
  exact ⟨_, Later.now _, rfl, (x.h.alloc x.h.size _).alloc (by have := x.h.size; simp; omega) _, ⟨Later.size hs, Later.size hs'⟩, ⟨Later.cell hs (f1 0), Later.cell hs (f1 1), Later.cell hs (f1 2), Later.cell hs (f1 3)⟩, Later.cell hs' (f2 0), Later.cell hs' (f2 1), Later.cell hs' (f2 2), Later.cell hs' (f2 3)⟩

end Go.Proofs.Ytmpkbolabdmkkaa
