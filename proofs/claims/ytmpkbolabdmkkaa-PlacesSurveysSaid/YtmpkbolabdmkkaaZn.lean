/- STRIKING: whether a rule excludes an option, and what is left when such options are struck, in plain Lean. -/
import Derived.Test.YtmpkbolabdmkkaaZk
import Derived.Test.YtmpkbolabdmkkaaZc
import Derived.Test.YtmpkbolabdmkkaaZl
import Derived.Test.YtmpkbolabdmkkaaZm
import Derived.Test.YtmpkbolabdmkkaaZh
namespace Go.Proofs.Ytmpkbolabdmkkaa

/-- a table has the shape of a problem's options -/
structure Shp (p : Prob) (t : List (List Bool)) : Prop where
  len : t.length = p.opts.length
  row : ∀ i, i < p.opts.length → (nth t i).length = (nth p.opts i).length

/-- the row of the k-th pane of a rule -/
def rowAt (r : Rl) (t : List (List Bool)) (k : Nat) : List Bool := nth t (nth r.panes k).toNat
/-- option j of the k-th pane of a rule is left, where one pane has just option o -/
def isAt (r : Rl) (t : List (List Bool)) (pane o k j : Nat) : Bool := if nth r.panes k = (pane : Int) then decide ((j : Int) = (o : Int)) else nth (rowAt r t k) j
def hitU (r : Rl) (t : List (List Bool)) (pane o k : Nat) : Nat → Bool
  | 0 => false
  | j + 1 => hitU r t pane o k j || (isAt r t pane o k j && nth (nth r.hits k) j)
def missU (r : Rl) (t : List (List Bool)) (pane o k : Nat) : Nat → Bool
  | 0 => false
  | j + 1 => missU r t pane o k j || (isAt r t pane o k j && !nth (nth r.hits k) j)
def mostU (r : Rl) (t : List (List Bool)) (pane o : Nat) : Nat → Int
  | 0 => 0
  | k + 1 => if hitU r t pane o k (rowAt r t k).length = true then mostU r t pane o k + 1 else mostU r t pane o k
def leastU (r : Rl) (t : List (List Bool)) (pane o : Nat) : Nat → Int
  | 0 => 0
  | k + 1 => if missU r t pane o k (rowAt r t k).length = true then leastU r t pane o k else leastU r t pane o k + 1
theorem mostU_bd (r : Rl) (t : List (List Bool)) (pane o : Nat) : ∀ k : Nat, 0 ≤ mostU r t pane o k ∧ mostU r t pane o k ≤ k
  | 0 => ⟨Int.le_refl _, Int.le_refl _⟩
  | k + 1 => by have := mostU_bd r t pane o k; unfold mostU; split <;> omega
theorem leastU_bd (r : Rl) (t : List (List Bool)) (pane o : Nat) : ∀ k : Nat, 0 ≤ leastU r t pane o k ∧ leastU r t pane o k ≤ k
  | 0 => ⟨Int.le_refl _, Int.le_refl _⟩
  | k + 1 => by have := leastU_bd r t pane o k; unfold leastU; split <;> omega
/-- a row has an option left -/
def hasT (l : List Bool) : Bool := l.contains true
theorem hasT_of {l : List Bool} {j : Nat} (hj : j < l.length) (h : nth l j = true) : hasT l = true := by
  unfold hasT; rw [List.contains_iff_mem, ← h]; exact nth_mem hj
/-- another pane of the rule has no option left -/
def deadB (r : Rl) (t : List (List Bool)) (pane : Nat) : Bool := decide (∃ k, k < r.panes.length ∧ nth r.panes k ≠ (pane : Int) ∧ hasT (rowAt r t k) = false)
theorem deadB_yes {r : Rl} {t : List (List Bool)} {pane k : Nat} (hk : k < r.panes.length) (h : nth r.panes k ≠ (pane : Int)) (hc : hasT (rowAt r t k) = false) : deadB r t pane = true := by
  unfold deadB; rw [decide_eq_true_iff]; exact ⟨k, hk, h, hc⟩
theorem deadB_no {r : Rl} {t : List (List Bool)} {pane : Nat} (h : ∀ k, k < r.panes.length → nth r.panes k = (pane : Int) ∨ hasT (rowAt r t k) = true) : deadB r t pane = false := by
  unfold deadB; rw [decide_eq_false_iff_not]; rintro ⟨k, hk, h1, h2⟩
  rcases h k hk with h3 | h3
  · exact h1 h3
  · rw [h2] at h3; cases h3
/-- a pair of options is allowed -/
def okAt (r : Rl) (a o k : Nat) : Bool := if a = 0 then nth (nth r.ok o) k else nth (nth r.ok k) o
/-- an option has no partner -/
def pairU (r : Rl) (t : List (List Bool)) (a o : Nat) : Bool := decide (∀ k, k < (rowAt r t (1 - a)).length → ¬ (nth (rowAt r t (1 - a)) k = true ∧ okAt r a o k = true))
theorem pairU_no {r : Rl} {t : List (List Bool)} {a o k : Nat} (hk : k < (rowAt r t (1 - a)).length) (h1 : nth (rowAt r t (1 - a)) k = true) (h2 : okAt r a o k = true) : pairU r t a o = false := by
  unfold pairU; rw [decide_eq_false_iff_not]; exact fun h => h k hk ⟨h1, h2⟩
theorem pairU_yes {r : Rl} {t : List (List Bool)} {a o : Nat} (h : ∀ k, k < (rowAt r t (1 - a)).length → ¬ (nth (rowAt r t (1 - a)) k = true ∧ okAt r a o k = true)) : pairU r t a o = true := by
  unfold pairU; rw [decide_eq_true_iff]; exact h
/-- too few or too many are hit, whatever is laid -/
def cntU (r : Rl) (t : List (List Bool)) (pane o : Nat) : Bool := decide (min (mostU r t pane o r.panes.length) r.hi < max (leastU r t pane o r.panes.length) r.lo)
/-- an option can be struck because of a rule -/
def struckB (r : Rl) (t : List (List Bool)) (pane o : Nat) : Bool :=
  if idxL r.panes pane < 0 then false else if deadB r t pane = true then true else if r.kind = 2 then pairU r t (idxL r.panes pane).toNat o else cntU r t pane o

theorem idxL_cases (l : List Int) (x : Int) : (idxL l x = -1 ∧ ∀ i, i < l.length → nth l i ≠ x) ∨ ∃ a, a < l.length ∧ idxL l x = (a : Int) ∧ nth l a = x := by
  by_cases h : x ∈ l
  · refine .inr ⟨l.idxOf x, List.idxOf_lt_length_iff.2 h, by unfold idxL; rw [if_pos h], ?_⟩
    rw [nth_eq _ _ (List.idxOf_lt_length_iff.2 h)]; exact List.getElem_idxOf _
  · refine .inl ⟨by unfold idxL; rw [if_neg h], fun i hi e => h ?_⟩
    rw [← e, nth_eq _ _ hi]; exact List.getElem_mem _
theorem struckB_out {r : Rl} {t : List (List Bool)} {pane o : Nat} (h : idxL r.panes pane = -1) : struckB r t pane o = false := by unfold struckB; rw [h]; rfl
theorem struckB_dead {r : Rl} {t : List (List Bool)} {pane o a : Nat} (h : idxL r.panes pane = (a : Int)) (hd : deadB r t pane = true) : struckB r t pane o = true := by
  unfold struckB; rw [h, if_neg (by omega), if_pos hd]
theorem struckB_pair {r : Rl} {t : List (List Bool)} {pane o a : Nat} (h : idxL r.panes pane = (a : Int)) (hd : deadB r t pane = false) (hk : r.kind = 2) : struckB r t pane o = pairU r t a o := by
  unfold struckB; rw [h, if_neg (by omega), if_neg (by simp [hd]), if_pos hk]; rfl
theorem struckB_cnt {r : Rl} {t : List (List Bool)} {pane o a : Nat} (h : idxL r.panes pane = (a : Int)) (hd : deadB r t pane = false) (hk : ¬ r.kind = 2) : struckB r t pane o = cntU r t pane o := by
  unfold struckB; rw [h, if_neg (by omega), if_neg (by simp [hd]), if_neg hk]

theorem hitU_of {r : Rl} {t : List (List Bool)} {pane o k j : Nat} (h1 : isAt r t pane o k j = true) (h2 : nth (nth r.hits k) j = true) : ∀ n, j < n → hitU r t pane o k n = true
  | 0, h => absurd h (Nat.not_lt_zero _)
  | n + 1, h => by
    unfold hitU
    rcases Nat.lt_succ_iff_lt_or_eq.1 h with h' | rfl
    · rw [hitU_of h1 h2 n h', Bool.true_or]
    · rw [h1, h2]; simp
theorem missU_of {r : Rl} {t : List (List Bool)} {pane o k j : Nat} (h1 : isAt r t pane o k j = true) (h2 : nth (nth r.hits k) j = false) : ∀ n, j < n → missU r t pane o k n = true
  | 0, h => absurd h (Nat.not_lt_zero _)
  | n + 1, h => by
    unfold missU
    rcases Nat.lt_succ_iff_lt_or_eq.1 h with h' | rfl
    · rw [missU_of h1 h2 n h', Bool.true_or]
    · rw [h1, h2]; simp

/-- a table leaves what a filling has -/
def Leaves (p : Prob) (t : List (List Bool)) (f : List Int) : Prop := ∀ i, i < p.opts.length → nth (nth t i) (nth f i).toNat = true

/-- an option that an agreeing filling has is not struck, where what the filling has is left -/
theorem struck_sound {p : Prob} {r : Rl} {t : List (List Bool)} {f : List Int} (hv : p.opts.length = p.panes.length) (hr : ruleOK p r = true) (hs : Shp p t) (hf : ∀ i, i < p.opts.length → 0 ≤ nth f i ∧ nth f i < (nth p.opts i).length) (hl : Leaves p t f) (hk : keepsB r f = true)
    {pane : Nat} (hp : pane < p.opts.length) : struckB r t pane (nth f pane).toNat = false := by
  rcases idxL_cases r.panes pane with ⟨h, _⟩ | ⟨a, ha, hia, hpa⟩
  · exact struckB_out h
  rcases ruleOK_iff.1 hr with ⟨hkd, hc⟩ | ⟨hkd, hc⟩
  · obtain ⟨h1, _, h3⟩ := cnt_at hc
    have hin : ∀ k, k < r.panes.length → (nth r.panes k).toNat < p.opts.length := fun k hk => by have := h3 k hk; omega
    have hd : deadB r t pane = false := deadB_no fun k hk => .inr (by
      have := hin k hk
      have h5 := hl _ this
      have h6 := hf _ this
      exact hasT_of (by show (nth f (nth r.panes k).toNat).toNat < (nth t (nth r.panes k).toNat).length; rw [hs.row _ this]; omega) h5)
    have hk2 : ¬ r.kind = 2 := by omega
    rw [struckB_cnt hia hd hk2]
    rw [keepsB_cnt hk2] at hk
    obtain ⟨hlo, hhi⟩ := wi_iff.1 hk
    have his : ∀ k, k < r.panes.length → isAt r t pane (nth f pane).toNat k (chosenAt r f k).toNat = true := fun k hk => by
      unfold isAt
      by_cases e : nth r.panes k = (pane : Int)
      · rw [if_pos e]; unfold chosenAt; rw [e]; simp
      · rw [if_neg e]; exact hl _ (hin k hk)
    have hlt : ∀ k, k < r.panes.length → (chosenAt r f k).toNat < (rowAt r t k).length := fun k hk => by
      show (nth f (nth r.panes k).toNat).toNat < (nth t (nth r.panes k).toNat).length; have := hf _ (hin k hk); rw [hs.row _ (hin k hk)]; omega
    have hm : ∀ k, k ≤ r.panes.length → hitsTo r f k ≤ mostU r t pane (nth f pane).toNat k ∧ leastU r t pane (nth f pane).toNat k ≤ hitsTo r f k := by
      intro k
      induction k with
      | zero => exact fun _ => ⟨Int.le_refl _, Int.le_refl _⟩
      | succ k ih =>
        intro hk
        have := ih (by omega)
        have b1 := mostU_bd r t pane (nth f pane).toNat k
        unfold hitsTo mostU leastU
        cases hh : hitAt r f k
        · rw [if_neg (by simp), if_pos (missU_of (his k (by omega)) (by simpa [hitAt] using hh) _ (hlt k (by omega)))]
          constructor
          · split <;> omega
          · exact this.2
        · rw [if_pos rfl, if_pos (hitU_of (his k (by omega)) (by simpa [hitAt] using hh) _ (hlt k (by omega)))]
          constructor
          · omega
          · split <;> omega
    have := hm _ (Nat.le_refl _)
    unfold cntU
    rw [decide_eq_false_iff_not]
    omega
  · obtain ⟨h1, _, _, _, h5, h6, h7, h8, h9⟩ := pair_at hc
    have i0 : (nth r.panes 0).toNat < p.opts.length := by omega
    have i1 : (nth r.panes 1).toNat < p.opts.length := by omega
    have hin : ∀ k, k < r.panes.length → (nth r.panes k).toNat < p.opts.length := fun k hk => by
      rcases (by omega : k = 0 ∨ k = 1) with rfl | rfl
      · exact i0
      · exact i1
    have hd : deadB r t pane = false := deadB_no fun k hk => .inr (by
      have := hin k hk
      have h5 := hl _ this
      have h6 := hf _ this
      exact hasT_of (by show (nth f (nth r.panes k).toNat).toNat < (nth t (nth r.panes k).toNat).length; rw [hs.row _ this]; omega) h5)
    rw [struckB_pair hia hd hkd]
    rw [keepsB_pair hkd] at hk
    have hlt : ∀ k, k < r.panes.length → (chosenAt r f k).toNat < (rowAt r t k).length := fun k hk => by
      show (nth f (nth r.panes k).toNat).toNat < (nth t (nth r.panes k).toNat).length; have := hf _ (hin k hk); rw [hs.row _ (hin k hk)]; omega
    rcases (by omega : a = 0 ∨ a = 1) with rfl | rfl
    · refine pairU_no (k := (chosenAt r f 1).toNat) (hlt 1 (by omega)) (hl _ i1) ?_
      unfold okAt; rw [if_pos rfl]
      rw [← hk]; unfold chosenAt; rw [hpa]; rfl
    · refine pairU_no (k := (chosenAt r f 0).toNat) (hlt 0 (by omega)) (hl _ i0) ?_
      unfold okAt; rw [if_neg (by omega)]
      rw [← hk]; unfold chosenAt; rw [hpa]; rfl

/-! the passes -/
/-- some rule strikes an option -/
def anyB (p : Prob) (t : List (List Bool)) (i o : Nat) : Bool := decide (∃ m, m < p.rules.length ∧ struckB (nth p.rules m) t i o = true)
theorem anyB_yes {p : Prob} {t : List (List Bool)} {i o m : Nat} (hm : m < p.rules.length) (h : struckB (nth p.rules m) t i o = true) : anyB p t i o = true := by unfold anyB; rw [decide_eq_true_iff]; exact ⟨m, hm, h⟩
theorem anyB_no {p : Prob} {t : List (List Bool)} {i o : Nat} (h : ∀ m, m < p.rules.length → struckB (nth p.rules m) t i o = false) : anyB p t i o = false := by
  unfold anyB; rw [decide_eq_false_iff_not]; rintro ⟨m, hm, h'⟩; rw [h m hm] at h'; cases h'
def strikeB (p : Prob) (t : List (List Bool)) (i o : Nat) : Bool := nth (nth t i) o && anyB p t i o
def strikeT (p : Prob) (t : List (List Bool)) (i o : Nat) : List (List Bool) := if strikeB p t i o = true then setTab t i o false else t
def rowTo (p : Prob) (t : List (List Bool)) (i : Nat) : Nat → List (List Bool)
  | 0 => t
  | o + 1 => strikeT p (rowTo p t i o) i o
def passTo (p : Prob) (t : List (List Bool)) : Nat → List (List Bool)
  | 0 => t
  | i + 1 => rowTo p (passTo p t i) i (nth p.opts i).length
def passT (p : Prob) (t : List (List Bool)) : List (List Bool) := passTo p t p.opts.length
/-- how many options are left -/
def cntT (t : List (List Bool)) : Nat := (t.map fun l => l.count true).sum

theorem count_set {l : List Bool} {o : Nat} (ho : o < l.length) (h : nth l o = true) : (l.set o false).count true + 1 = l.count true := by
  induction l generalizing o with
  | nil => simp at ho
  | cons x l ih =>
    cases o with
    | zero =>
      have : x = true := h
      subst this; simp
    | succ o =>
      have h' : nth l o = true := h
      have := ih (o := o) (by simpa using ho) h'
      rw [List.set_cons_succ, List.count_cons, List.count_cons]; omega
theorem sum_set {α : Type} [Inhabited α] (g : α → Nat) {l : List α} {i : Nat} (hi : i < l.length) (x : α) : ((l.set i x).map g).sum + g (nth l i) = (l.map g).sum + g x := by
  induction l generalizing i with
  | nil => simp at hi
  | cons y l ih =>
    cases i with
    | zero => simp [nth]; omega
    | succ i =>
      have h' : nth (y :: l) (i + 1) = nth l i := rfl
      have := ih (i := i) (by simpa using hi)
      rw [List.set_cons_succ, h', List.map_cons, List.map_cons, List.sum_cons, List.sum_cons]; omega
theorem cntT_set {t : List (List Bool)} {i o : Nat} (hi : i < t.length) (ho : o < (nth t i).length) (h : nth (nth t i) o = true) : cntT (setTab t i o false) + 1 = cntT t := by
  have h1 := sum_set (fun l : List Bool => l.count true) hi ((nth t i).set o false)
  have h2 := count_set ho h
  unfold cntT setTab
  omega
theorem Shp.set {p : Prob} {t : List (List Bool)} (h : Shp p t) {i o : Nat} (b : Bool) : Shp p (setTab t i o b) := by
  refine ⟨by rw [setTab_len]; exact h.len, fun j hj => ?_⟩
  by_cases e : j = i
  · subst e; rw [nth_setTab_same (by rw [h.len]; exact hj), List.length_set]; exact h.row j hj
  · rw [nth_setTab_other e]; exact h.row j hj
theorem Shp.strike {p : Prob} {t : List (List Bool)} (h : Shp p t) (i o : Nat) : Shp p (strikeT p t i o) := by
  unfold strikeT; split
  · exact h.set _
  · exact h
theorem Shp.rowTo {p : Prob} {t : List (List Bool)} (h : Shp p t) (i : Nat) : ∀ o, Shp p (rowTo p t i o)
  | 0 => h
  | o + 1 => (h.rowTo i o).strike i o
theorem Shp.passTo {p : Prob} {t : List (List Bool)} (h : Shp p t) : ∀ i, Shp p (passTo p t i)
  | 0 => h
  | i + 1 => (h.passTo i).rowTo i _
theorem strikeT_yes {p : Prob} {t : List (List Bool)} {i o : Nat} (h : strikeB p t i o = true) : strikeT p t i o = setTab t i o false := by unfold strikeT; rw [if_pos h]
theorem strikeT_no {p : Prob} {t : List (List Bool)} {i o : Nat} (h : strikeB p t i o = false) : strikeT p t i o = t := by unfold strikeT; rw [if_neg (by simp [h])]
theorem cnt_strike {p : Prob} {t : List (List Bool)} (h : Shp p t) {i o : Nat} (hi : i < p.opts.length) (ho : o < (nth p.opts i).length) (hs : strikeB p t i o = true) : cntT (strikeT p t i o) < cntT t := by
  rw [strikeT_yes hs]
  unfold strikeB at hs
  rw [Bool.and_eq_true] at hs
  have := cntT_set (by rw [h.len]; exact hi) (by rw [h.row i hi]; exact ho) hs.1
  omega

theorem Leaves.strike {p : Prob} {t : List (List Bool)} {f : List Int} (hv : validP p = true) (hs : Shp p t) (hf : f ∈ agr p) (h : Leaves p t f) (i o : Nat) (hi : i < p.opts.length) : Leaves p (strikeT p t i o) f := by
  obtain ⟨m1, m2, m3, _⟩ := agr_mem hv hf
  have hag := (agr_mem hv hf).2.2.2
  cases hb : strikeB p t i o
  · rw [strikeT_no hb]; exact h
  · rw [strikeT_yes hb]
    intro j hj
    by_cases e : j = i
    · subst e
      rw [nth_setTab_same (by rw [hs.len]; exact hj)]
      by_cases e2 : (nth f j).toNat = o
      · exfalso
        unfold strikeB at hb
        rw [Bool.and_eq_true] at hb
        have h2 := hb.2
        unfold anyB at h2
        rw [decide_eq_true_iff] at h2
        obtain ⟨m, hm, hst⟩ := h2
        have hkp : keepsB (nth p.rules m) f = true := by
          cases hk : keepsB (nth p.rules m) f
          · rw [agreesB_bad hm hk] at hag; cases hag
          · rfl
        have := struck_sound (valid_len hv) (valid_rule hv hm) hs (fun i hi => m3 i (by rw [m2]; exact hi)) h hkp hj
        rw [e2, hst] at this; cases this
      · have := h j hj
        by_cases h3 : (nth f j).toNat < (nth t j).length
        · rw [nth_set_at (by have := hb; unfold strikeB at this; rw [Bool.and_eq_true] at this; rcases Nat.lt_or_ge o (nth t j).length with h4 | h4
                             · exact h4
                             · exfalso; have h5 := this.1; unfold nth at h5; rw [List.getD_eq_getElem?_getD, List.getElem?_eq_none (by simpa [nth] using h4)] at h5; cases h5), if_neg (Ne.symm e2)]
          exact this
        · exfalso
          unfold nth at this
          rw [List.getD_eq_getElem?_getD, List.getElem?_eq_none (by simpa [nth] using h3)] at this
          cases this
    · rw [nth_setTab_other e]; exact h j hj
theorem Leaves.rowTo {p : Prob} {t : List (List Bool)} {f : List Int} (hv : validP p = true) (hs : Shp p t) (hf : f ∈ agr p) (h : Leaves p t f) (i : Nat) (hi : i < p.opts.length) : ∀ o, Leaves p (rowTo p t i o) f
  | 0 => h
  | o + 1 => (h.rowTo hv hs hf i hi o).strike hv (hs.rowTo i o) hf i o hi
theorem Leaves.passTo {p : Prob} {t : List (List Bool)} {f : List Int} (hv : validP p = true) (hs : Shp p t) (hf : f ∈ agr p) (h : Leaves p t f) : ∀ i, i ≤ p.opts.length → Leaves p (passTo p t i) f
  | 0, _ => h
  | i + 1, hi => (h.passTo hv hs hf i (by omega)).rowTo hv (hs.passTo i) hf i (by omega) _

/-- pass after pass, until nothing is struck -/
inductive Prunes (p : Prob) : List (List Bool) → List (List Bool) → Prop
  | stop {t : List (List Bool)} : cntT (passT p t) = cntT t → Prunes p t (passT p t)
  | more {t out : List (List Bool)} : cntT (passT p t) < cntT t → Prunes p (passT p t) out → Prunes p t out
theorem Prunes.uniq {p : Prob} {t a b : List (List Bool)} (h : Prunes p t a) (h' : Prunes p t b) : a = b := by
  induction h generalizing b with
  | stop e => cases h' with
    | stop _ => rfl
    | more l _ => omega
  | more l _ ih => cases h' with
    | stop e => omega
    | more _ h2 => exact ih h2
theorem Prunes.shp {p : Prob} {t out : List (List Bool)} (h : Prunes p t out) (hs : Shp p t) : Shp p out := by
  induction h with
  | stop _ => exact hs.passTo _
  | more _ _ ih => exact ih (hs.passTo _)
theorem Prunes.leaves {p : Prob} {t out : List (List Bool)} (h : Prunes p t out) (hv : validP p = true) (hs : Shp p t) {f : List Int} (hf : f ∈ agr p) (hl : Leaves p t f) : Leaves p out f := by
  induction h with
  | stop _ => exact hl.passTo hv hs hf _ (Nat.le_refl _)
  | more _ _ ih => exact ih (hs.passTo _) (hl.passTo hv hs hf _ (Nat.le_refl _))
theorem shp_full (p : Prob) (b : Bool) : Shp p (fullTab p b) := ⟨fullTo_len p b (Nat.le_refl _), fun i hi => by unfold fullTab; rw [nth_fullTo p b (Nat.le_refl _) hi]; simp⟩
theorem leaves_full {p : Prob} (hv : validP p = true) {f : List Int} (hf : f ∈ agr p) : Leaves p (fullTab p true) f := by
  obtain ⟨m1, m2, m3, _⟩ := agr_mem hv hf
  intro i hi
  have := m3 i (by rw [m2]; exact hi)
  unfold fullTab
  rw [nth_fullTo p true (Nat.le_refl _) hi, nth_eq _ _ (by simp; omega)]
  simp
/-- pruning strikes nothing that is possible -/
theorem prunes_keeps {p : Prob} (hv : validP p = true) {t : List (List Bool)} (h : Prunes p (fullTab p true) t) {i o : Nat} (hi : i < p.opts.length) (ho : o < (nth p.opts i).length) (hp : nth (nth (possT p) i) o = true) : nth (nth t i) o = true := by
  obtain ⟨f, hf, hfo⟩ := (poss_iff hv hi ho).1 hp
  have := h.leaves hv (shp_full p true) hf (leaves_full hv hf) i hi
  rw [hfo] at this
  exact this
end Go.Proofs.Ytmpkbolabdmkkaa

/- STRIKING as the reference tells it: it is the same, in plain Lean. -/
namespace Go.Proofs.Ytmpkbolabdmkkaa

/-- what a row of options leaves: one that misses, one that hits -/
def missF (l h : List Bool) : Nat → Bool
  | 0 => false
  | j + 1 => missF l h j || (nth l j && !nth h j)
def hitF (l h : List Bool) : Nat → Bool
  | 0 => false
  | j + 1 => hitF l h j || (nth l j && nth h j)
theorem missU_far {r : Rl} {t : List (List Bool)} {pane o k : Nat} (h : nth r.panes k ≠ (pane : Int)) : ∀ n, missU r t pane o k n = missF (rowAt r t k) (nth r.hits k) n
  | 0 => rfl
  | n + 1 => by unfold missU missF isAt; rw [missU_far h n, if_neg h]
theorem hitU_far {r : Rl} {t : List (List Bool)} {pane o k : Nat} (h : nth r.panes k ≠ (pane : Int)) : ∀ n, hitU r t pane o k n = hitF (rowAt r t k) (nth r.hits k) n
  | 0 => rfl
  | n + 1 => by unfold hitU hitF isAt; rw [hitU_far h n, if_neg h]
theorem U_near {r : Rl} {t : List (List Bool)} {pane o k : Nat} (h : nth r.panes k = (pane : Int)) : ∀ n,
    hitU r t pane o k n = (decide (o < n) && nth (nth r.hits k) o) ∧ missU r t pane o k n = (decide (o < n) && !nth (nth r.hits k) o)
  | 0 => by simp [hitU, missU]
  | n + 1 => by
    obtain ⟨h1, h2⟩ := U_near h n
    unfold hitU missU isAt
    rw [h1, h2, if_pos h]
    by_cases e : n = o
    · subst e
      simp
    · have e1 : ¬ ((n : Int) = (o : Int)) := by omega
      rw [decide_eq_false e1]
      by_cases e2 : o < n
      · rw [decide_eq_true e2, decide_eq_true (show o < n + 1 by omega)]; simp
      · rw [decide_eq_false e2, decide_eq_false (show ¬ o < n + 1 by omega)]; simp
theorem near_at {r : Rl} {t : List (List Bool)} {pane o k : Nat} (h : nth r.panes k = (pane : Int)) (ho : o < (rowAt r t k).length) :
    hitU r t pane o k (rowAt r t k).length = nth (nth r.hits k) o ∧ missU r t pane o k (rowAt r t k).length = !nth (nth r.hits k) o := by
  obtain ⟨h1, h2⟩ := U_near (t := t) (o := o) h (rowAt r t k).length
  rw [h1, h2, decide_eq_true ho]; simp

def thereU (r : Rl) (pane : Nat) : Nat → Bool
  | 0 => false
  | k + 1 => thereU r pane k || (nth r.panes k == (pane : Int))
def emptyU (r : Rl) (t : List (List Bool)) (pane o : Nat) : Nat → Bool
  | 0 => false
  | k + 1 => emptyU r t pane o k || (!missU r t pane o k (rowAt r t k).length && !hitU r t pane o k (rowAt r t k).length)
theorem thereU_iff (r : Rl) (pane : Nat) : ∀ n, thereU r pane n = true ↔ ∃ k, k < n ∧ nth r.panes k = (pane : Int)
  | 0 => by simp [thereU]
  | n + 1 => by
    unfold thereU
    rw [Bool.or_eq_true, thereU_iff r pane n, beq_iff_eq]
    constructor
    · rintro (⟨k, h1, h2⟩ | h)
      · exact ⟨k, by omega, h2⟩
      · exact ⟨n, by omega, h⟩
    · rintro ⟨k, h1, h2⟩
      rcases Nat.lt_succ_iff_lt_or_eq.1 h1 with h3 | rfl
      · exact .inl ⟨k, h3, h2⟩
      · exact .inr h2
theorem emptyU_iff (r : Rl) (t : List (List Bool)) (pane o : Nat) : ∀ n, emptyU r t pane o n = true ↔ ∃ k, k < n ∧ missU r t pane o k (rowAt r t k).length = false ∧ hitU r t pane o k (rowAt r t k).length = false
  | 0 => by simp [emptyU]
  | n + 1 => by
    unfold emptyU
    rw [Bool.or_eq_true, emptyU_iff r t pane o n, Bool.and_eq_true, Bool.not_eq_true', Bool.not_eq_true']
    constructor
    · rintro (⟨k, h1, h2⟩ | h)
      · exact ⟨k, by omega, h2⟩
      · exact ⟨n, by omega, h⟩
    · rintro ⟨k, h1, h2⟩
      rcases Nat.lt_succ_iff_lt_or_eq.1 h1 with h3 | rfl
      · exact .inl ⟨k, h3, h2⟩
      · exact .inr h2
/-- a row has an option left just if one of them misses or hits -/
theorem hasT_iff {l : List Bool} : hasT l = true ↔ ∃ j, j < l.length ∧ nth l j = true := by
  constructor
  · intro h
    unfold hasT at h
    rw [List.contains_iff_mem] at h
    obtain ⟨i, hi, e⟩ := List.getElem_of_mem h
    exact ⟨i, hi, by rw [nth_eq _ _ hi]; exact e⟩
  · rintro ⟨j, h1, h2⟩
    exact hasT_of h1 h2
theorem F_none (l h : List Bool) : ∀ n, (missF l h n = false ∧ hitF l h n = false) ↔ ∀ j, j < n → nth l j = false
  | 0 => by simp [missF, hitF]
  | n + 1 => by
    unfold missF hitF
    rw [Bool.or_eq_false_iff, Bool.or_eq_false_iff]
    constructor
    · rintro ⟨⟨h1, h2⟩, h3, h4⟩ j hj
      rcases Nat.lt_succ_iff_lt_or_eq.1 hj with h5 | rfl
      · exact (F_none l h n).1 ⟨h1, h3⟩ j h5
      · cases e : nth l j
        · rfl
        · rw [e] at h2 h4; cases e2 : nth h j <;> rw [e2] at h2 h4 <;> simp at h2 h4
    · intro hh
      obtain ⟨h1, h2⟩ := (F_none l h n).2 fun j hj => hh j (by omega)
      have h3 := hh n (by omega)
      exact ⟨⟨h1, by rw [h3]; rfl⟩, h2, by rw [h3]; rfl⟩
/-- one and the same: what the reference finds of a rule that counts -/
theorem struckB_ref {r : Rl} {t : List (List Bool)} {pane o : Nat} (hk : ¬ r.kind = 2) (ho : ∀ k, k < r.panes.length → nth r.panes k = (pane : Int) → o < (rowAt r t k).length) :
    struckB r t pane o = (thereU r pane r.panes.length && (emptyU r t pane o r.panes.length || cntU r t pane o)) := by
  have hed : emptyU r t pane o r.panes.length = deadB r t pane := by
    rw [Bool.eq_iff_iff, emptyU_iff]
    unfold deadB
    rw [decide_eq_true_iff]
    constructor
    · rintro ⟨k, h1, h2, h3⟩
      by_cases e : nth r.panes k = (pane : Int)
      · obtain ⟨h4, h5⟩ := near_at (t := t) (o := o) e (ho k h1 e)
        rw [h4] at h3; rw [h5, h3] at h2; cases h2
      · rw [missU_far e] at h2; rw [hitU_far e] at h3
        refine ⟨k, h1, e, ?_⟩
        cases hh : hasT (rowAt r t k)
        · rfl
        · obtain ⟨j, hj, hjt⟩ := hasT_iff.1 hh
          have := (F_none _ _ _).1 ⟨h2, h3⟩ j hj
          rw [hjt] at this; cases this
    · rintro ⟨k, h1, e, h2⟩
      have := (F_none (rowAt r t k) (nth r.hits k) (rowAt r t k).length).2 fun j hj => by
        cases hh : nth (rowAt r t k) j
        · rfl
        · rw [hasT_of hj hh] at h2; cases h2
      exact ⟨k, h1, by rw [missU_far e]; exact this.1, by rw [hitU_far e]; exact this.2⟩
  rw [hed]
  rcases idxL_cases r.panes pane with ⟨h, hn⟩ | ⟨a, ha, hia, hpa⟩
  · have : thereU r pane r.panes.length = false := by
      rw [← Bool.not_eq_true, thereU_iff]; rintro ⟨k, h1, h2⟩; exact hn k h1 h2
    rw [struckB_out h, this]; rfl
  · have : thereU r pane r.panes.length = true := (thereU_iff _ _ _).2 ⟨a, ha, hpa⟩
    rw [this]
    cases hd : deadB r t pane
    · rw [struckB_cnt hia hd hk]; simp
    · rw [struckB_dead hia hd]; simp
/-- and of a pair -/
theorem struckB_two {r : Rl} {t : List (List Bool)} {pane o a : Nat} (hl : r.panes.length = 2) (hne : nth r.panes 0 ≠ nth r.panes 1) (hk : r.kind = 2) (ha : a < 2) (h : nth r.panes a = (pane : Int)) : struckB r t pane o = pairU r t a o := by
  have hia : idxL r.panes pane = (a : Int) := by
    rcases idxL_cases r.panes pane with ⟨_, hn⟩ | ⟨b, hb, hib, hpb⟩
    · exact absurd h (hn a (by omega))
    · rcases (by omega : a = 0 ∨ a = 1) with rfl | rfl <;> rcases (by omega : b = 0 ∨ b = 1) with rfl | rfl
      · exact hib
      · exact absurd (h.trans hpb.symm) hne
      · exact absurd (hpb.trans h.symm) hne
      · exact hib
  cases hd : deadB r t pane
  · exact struckB_pair hia hd hk
  · rw [struckB_dead hia hd]
    symm
    unfold deadB at hd
    rw [decide_eq_true_iff] at hd
    obtain ⟨k, h1, h2, h3⟩ := hd
    have hk1 : k = 1 - a := by
      rcases (by omega : a = 0 ∨ a = 1) with rfl | rfl <;> rcases (by omega : k = 0 ∨ k = 1) with rfl | rfl
      · exact absurd h h2
      · rfl
      · rfl
      · exact absurd h h2
    subst hk1
    refine pairU_yes fun j hj hh => ?_
    rw [hasT_of hj hh.1] at h3; cases h3
theorem struckB_none {r : Rl} {t : List (List Bool)} {pane o : Nat} (hn : ∀ k, k < r.panes.length → nth r.panes k ≠ (pane : Int)) : struckB r t pane o = false := by
  rcases idxL_cases r.panes pane with ⟨h, _⟩ | ⟨b, hb, _, hpb⟩
  · exact struckB_out h
  · exact absurd hpb (hn b hb)

/-- one option, the first m rules -/
def anyTo (p : Prob) (t : List (List Bool)) (i o m : Nat) : Bool := decide (∃ q, q < m ∧ struckB (nth p.rules q) t i o = true)
def ruleTo (p : Prob) (t : List (List Bool)) (i o m : Nat) : List (List Bool) := if (nth (nth t i) o && anyTo p t i o m) = true then setTab t i o false else t
theorem ruleTo_0 (p : Prob) (t : List (List Bool)) (i o : Nat) : ruleTo p t i o 0 = t := by unfold ruleTo anyTo; simp
theorem ruleTo_all (p : Prob) (t : List (List Bool)) (i o : Nat) : ruleTo p t i o p.rules.length = strikeT p t i o := rfl
theorem anyTo_succ (p : Prob) (t : List (List Bool)) (i o m : Nat) : anyTo p t i o (m + 1) = (anyTo p t i o m || struckB (nth p.rules m) t i o) := by
  rw [Bool.eq_iff_iff, Bool.or_eq_true]
  unfold anyTo
  rw [decide_eq_true_iff, decide_eq_true_iff]
  constructor
  · rintro ⟨q, h1, h2⟩
    rcases Nat.lt_succ_iff_lt_or_eq.1 h1 with h3 | rfl
    · exact .inl ⟨q, h3, h2⟩
    · exact .inr h2
  · rintro (⟨q, h1, h2⟩ | h)
    · exact ⟨q, by omega, h2⟩
    · exact ⟨m, by omega, h⟩
/-- one rule more: the three ways -/
theorem ruleTo_off {p : Prob} {t : List (List Bool)} {i o m : Nat} (h : nth (nth (ruleTo p t i o m) i) o = false) : ruleTo p t i o (m + 1) = ruleTo p t i o m := by
  unfold ruleTo at h ⊢
  rw [anyTo_succ]
  cases h1 : nth (nth t i) o
  · rfl
  · cases h2 : anyTo p t i o m
    · rw [h1, h2] at h; rw [if_neg (by simp), h1] at h; cases h
    · simp
theorem ruleTo_left {p : Prob} {t : List (List Bool)} {i o m : Nat} (hi : i < t.length) (ho : o < (nth t i).length) (h : nth (nth (ruleTo p t i o m) i) o = true) : ruleTo p t i o m = t ∧ nth (nth t i) o = true ∧ anyTo p t i o m = false := by
  unfold ruleTo at h ⊢
  cases h1 : nth (nth t i) o
  · rw [h1] at h; rw [if_neg (by simp), h1] at h; cases h
  · cases h2 : anyTo p t i o m
    · exact ⟨by rw [if_neg (by simp)], rfl, rfl⟩
    · rw [h1, h2] at h
      rw [if_pos (by rfl), nth_setTab_same hi, nth_set_at ho, if_pos rfl] at h
      cases h
theorem ruleTo_yes {p : Prob} {t : List (List Bool)} {i o m : Nat} (h1 : nth (nth t i) o = true) (h : struckB (nth p.rules m) t i o = true) : ruleTo p t i o (m + 1) = setTab t i o false := by
  unfold ruleTo; rw [anyTo_succ, h, h1]; simp
theorem ruleTo_no {p : Prob} {t : List (List Bool)} {i o m : Nat} (h2 : anyTo p t i o m = false) (h : struckB (nth p.rules m) t i o = false) : ruleTo p t i o (m + 1) = t := by
  unfold ruleTo; rw [anyTo_succ, h, h2]; simp
theorem Shp.ruleTo {p : Prob} {t : List (List Bool)} (h : Shp p t) (i o m : Nat) : Shp p (ruleTo p t i o m) := by
  unfold Go.Proofs.Ytmpkbolabdmkkaa.ruleTo; split
  · exact h.set _
  · exact h
theorem cnt_rule {p : Prob} {t : List (List Bool)} (hs : Shp p t) {i o : Nat} (hi : i < p.opts.length) (ho : o < (nth p.opts i).length) (m : Nat) : cntT (ruleTo p t i o m) ≤ cntT t := by
  unfold ruleTo; split
  · rename_i h
    rw [Bool.and_eq_true] at h
    have := cntT_set (by rw [hs.len]; exact hi) (by rw [hs.row i hi]; exact ho) h.1
    omega
  · exact Nat.le_refl _
end Go.Proofs.Ytmpkbolabdmkkaa

/- CONTRACT of places' struck. -/
namespace Go.Proofs.Ytmpkbolabdmkkaa
open Go.RowKit

/-- what a lookup by a rule in a table leans on -/
theorem shp_in {p : Prob} {t : List (List Bool)} {r : Rl} (hs : Shp p t) (hv : p.opts.length = p.panes.length) (hr : ruleOK p r = true) : ∀ k, k < r.panes.length → 0 ≤ nth r.panes k ∧ (nth r.panes k).toNat < t.length := by
  rw [hs.len, hv]
  rcases ruleOK_iff.1 hr with ⟨_, hc⟩ | ⟨_, hc⟩
  · obtain ⟨_, _, h3⟩ := cnt_at hc
    intro k hk; have := h3 k hk; omega
  · obtain ⟨h1, _, _, _, h5, h6, _⟩ := pair_at hc
    intro k hk
    rcases (by omega : k = 0 ∨ k = 1) with rfl | rfl <;> omega

set_option maxRecDepth 100000 in
set_option maxHeartbeats 2000000 in
theorem pstruck {W : World} (x : Later W) (u2 u3 u6 vl : Value) (p : Prob) (r : Rl) (t : List (List Bool)) (pane o : Nat) (hr : IsRl W u2 u3 u6 r) (ht : IsBoolss W vl t) (hs : Shp p t) (hv : p.opts.length = p.panes.length) (hro : ruleOK p r = true)
    (hp : pane < p.opts.length) (ho : o < (nth p.opts pane).length) :
    Calls Try.prog 106 #[.agg #[.int .i64 r.item, .int .i64 r.kind, u2, u3, .int .i64 r.lo, .int .i64 r.hi, u6], vl, .int .i64 pane, .int .i64 o] x.w (Ends W (.bool (struckB r t pane o))) := by
  have hin := Lib.hid (shp_in hs hv hro)
  go_enter Try.func106, Try.ntmps106
  go_upto_region 1 with (fail)
  obtain ⟨W1, x1, e1, hb1, s1, p0, p1, p2, p3, p4, p5, p6⟩ := enter7 x (.int .i64 r.item) (.int .i64 r.kind) u2 u3 (.int .i64 r.lo) (.int .i64 r.hi) u6 87
  rw [e1]; clear e1
  have HQ := Lib.hid (hr.panes.below hb1)
  obtain ⟨aq, cq, rfl, lq, hq⟩ := (hr.panes.below hb1).opened
  obtain ⟨ah, ch, rfl, lh, hh⟩ := (hr.hits.below hb1).opened
  obtain ⟨ak, ck, rfl, lk, hk⟩ := (hr.ok.below hb1).opened
  obtain ⟨at_, ct, rfl, lt, htab⟩ := (ht.below hb1).opened
  clear hr ht
  have hcs := idxL_cases r.panes pane
  replace hs := Lib.hid hs
  replace hro := Lib.hid hro
  replace hv := Lib.hid hv
  replace hp := Lib.hid hp
  replace ho := Lib.hid ho
  obtain ⟨ix, hix⟩ : ∃ ix, idxL r.panes pane = ix := ⟨_, rfl⟩
  have hI := Lib.hid (fun y : Later W1 => pindexI y _ _ pane HQ.out)
  rw [hix] at hI hcs
  replace hix := Lib.hid hix
  rcases hcs with ⟨rfl, _⟩ | ⟨a, ha, rfl, hpa⟩
  · go_wp2_with (go_at_call 126; refine (hI.out x1).mono ?_; rintro e w' ⟨rfl, x1, rfl⟩)
    go_ret; exact ⟨ret_bool (struckB_out hix.out).symm, x1.down hb1⟩
  replace hpa := Lib.hid hpa
  replace ha := Lib.hid ha
  go_wp2_with (go_at_call 126; refine (hI.out x1).mono ?_; rintro e w' ⟨rfl, x1, rfl⟩)
  go_loopw [33] (fun i wr => ∃ k : Nat, k ≤ r.panes.length ∧ i = .int .i64 k ∧ (∃ y : Later W1, wr = y.w) ∧ (∀ j, j < k → nth r.panes j = (pane : Int) ∨ hasT (rowAt r t j) = true)) (fun i _ => r.panes.length - (intOf i).toNat)
  case atStart => exact ⟨0, Nat.zero_le _, rfl, ⟨x1, rfl⟩, by omega⟩
  case round =>
    clear x1
    obtain ⟨k, hkl, rfl, ⟨x, rfl⟩, hz⟩ := hrel
    replace hz := Lib.hid hz
    by_cases hlt : k < r.panes.length
    · have hdead := Lib.hid (@deadB_yes r t pane k hlt)
      obtain ⟨g1, g2⟩ := hin.out k hlt
      obtain ⟨bq, oq, rfl, hbq, c0⟩ := hq.out k hlt
      obtain ⟨bt, ot, rfl, hbt, ut, ct0, hU⟩ := htab.out _ g2
      rw [show nth t (nth r.panes k).toNat = rowAt r t k from rfl] at hU
      have HU : Hid (∀ y : Later W1, Calls Try.prog 112 #[ut, .bool true] y.w (Ends W1 (.bool (hasT (rowAt r t k))))) := Lib.hid (fun y => phasBl y _ _ true hU)
      obtain ⟨au, cu, rfl, lu, _⟩ := hU.opened
      clear hU
      cases hA : (nth r.panes k != (pane : Int))
      · go_wp2
        go_roundw
        case rel => exact ⟨k + 1, by omega, by go_num, ⟨x, rfl⟩, all_step hz.out (.inl (eq_bneI hA))⟩
        case measure => simp [intOf]; omega
      · cases hB : hasT (rowAt r t k)
        · go_wp2_with (go_at_call 112; refine (HU.out x).mono ?_; rintro e w' ⟨rfl, x, rfl⟩)
          go_ret; exact ⟨ret_bool (struckB_dead hix.out (hdead.out (ne_bneI hA) hB)).symm, x.down hb1⟩
        · go_wp2_with (go_at_call 112; refine (HU.out x).mono ?_; rintro e w' ⟨rfl, x, rfl⟩)
          go_roundw
          case rel => exact ⟨k + 1, by omega, by go_num, ⟨x, rfl⟩, all_step hz.out (.inr hB)⟩
          case measure => simp [intOf]; omega
    · obtain rfl : k = r.panes.length := by omega
      have hnd := Lib.hid (deadB_no hz.out)
      clear hz hlt
      by_cases hkind : r.kind = 2
      · have hk2 : (r.kind == 2) = true := by simp [hkind]
        have hpc : pairOK p r = true := by
          rcases ruleOK_iff.1 hro.out with h' | h'
          · omega
          · exact h'.2
        have hend := Lib.hid (@struckB_pair r t pane o a hix.out hnd.out hkind)
        obtain ⟨h1, _, _, _, h5, h6, h7, h8, h9⟩ := pair_at hpc
        replace h1 := Lib.hid h1
        replace h8 := Lib.hid h8
        replace h9 := Lib.hid h9
        clear h7 hkind
        have hyes := Lib.hid (@pairU_yes r t a o)
        have i0 := hin.out 0 (by have := h1.out; omega)
        have i1 := hin.out 1 (by have := h1.out; omega)
        have hr0 : (rowAt r t 0).length = (nth p.opts (nth r.panes 0).toNat).length := hs.out.row _ (by have := hv.out; omega)
        have hr1 : (rowAt r t 1).length = (nth p.opts (nth r.panes 1).toNat).length := hs.out.row _ (by have := hv.out; omega)
        have hlp : 1 < r.panes.length := by have := h1.out; omega
        obtain ⟨bq, oq, rfl, hbq, q0⟩ := hq.out 0 (by omega)
        obtain ⟨_, _, he, _, q1⟩ := hq.out 1 hlp
        cases he
        simp only [Nat.add_zero] at q0
        obtain ⟨bt, ot, rfl, hbt, ut0, t0, hU0⟩ := htab.out _ i0.2
        obtain ⟨_, _, he, _, ut1, t1, hU1⟩ := htab.out _ i1.2
        cases he
        obtain ⟨au0, cu0, rfl, _, hu0⟩ := hU0.opened
        obtain ⟨au1, cu1, rfl, _, hu1⟩ := hU1.opened
        rw [show nth t (nth r.panes 0).toNat = rowAt r t 0 from rfl] at t0 hu0
        rw [show nth t (nth r.panes 1).toNat = rowAt r t 1 from rfl] at t1 hu1
        replace hr0 := Lib.hid hr0
        replace hr1 := Lib.hid hr1
        clear hU0 hU1 p0 p3 p4 p5 hh lh
        rcases (show a = 0 ∨ a = 1 by have := ha.out; have := h1.out; omega) with rfl | rfl
        · have e0 : (nth r.panes 0).toNat = pane := by rw [hpa.out]; rfl
          have hok : o < r.ok.length := by rw [h8.out, e0]; exact ho.out
          have hokl : (nth r.ok o).length = (rowAt r t 1).length := by rw [h9.out o hok, hr1.out]
          obtain ⟨bk, ok, rfl, hbk, uk, k0, hK⟩ := hk.out o hok
          obtain ⟨ak, ck', rfl, _, hkr⟩ := hK.opened
          replace hokl := Lib.hid hokl
          replace e0 := Lib.hid e0
          clear hK
          go_wp2
          go_loopw [63] (fun i wr => ∃ k : Nat, k ≤ (rowAt r t 1).length ∧ i = .int .i64 k ∧ (∃ y : Later W1, wr = y.w) ∧ (∀ j, j < k → ¬ (nth (rowAt r t 1) j = true ∧ okAt r 0 o j = true))) (fun i _ => (rowAt r t 1).length - (intOf i).toNat)
          case atStart => exact ⟨0, Nat.zero_le _, rfl, ⟨x, rfl⟩, by omega⟩
          case round =>
            clear x
            obtain ⟨k, hkl, rfl, ⟨x, rfl⟩, hz⟩ := hrel
            replace hz := Lib.hid hz
            by_cases hlt : k < (rowAt r t 1).length
            · obtain ⟨b1, o1, rfl, hb1', d0⟩ := hu1.out k hlt
              have hlt2 : k < (nth r.ok o).length := by rw [hokl.out]; exact hlt
              obtain ⟨b2, o2, rfl, hb2', d1⟩ := hkr.out k hlt2
              have hno2 := Lib.hid (@pairU_no r t 0 o k hlt)
              cases hA : nth (rowAt r t 1) k <;> cases hB : nth (nth r.ok o) k <;> rw [hA] at d0 <;> rw [hB] at d1
              case true.true =>
                go_wp2
                go_ret; exact ⟨ret_bool (by rw [hend.out]; exact (hno2.out hA hB).symm), x.down hb1⟩
              all_goals
                go_wp2
                go_roundw
                case rel => exact ⟨k + 1, by omega, by go_num, ⟨x, rfl⟩, all_step hz.out (fun h => by have h1 := h.1; have h2 : nth (nth r.ok o) k = true := h.2; first | exact absurd h1 (by rw [hA]; decide) | exact absurd h2 (by rw [hB]; decide))⟩
                case measure => simp [intOf]; omega
            · obtain rfl : k = (rowAt r t 1).length := by omega
              go_wp2
              go_ret; exact ⟨ret_bool (by rw [hend.out]; exact (hyes.out hz.out).symm), x.down hb1⟩
        · have e0 : (nth r.panes 1).toNat = pane := by rw [hpa.out]; rfl
          have hok : r.ok.length = (rowAt r t 0).length := by rw [h8.out, hr0.out]
          have hokl : ∀ k, k < r.ok.length → o < (nth r.ok k).length := fun k hk => by rw [h9.out k hk, e0]; exact ho.out
          replace hok := Lib.hid hok
          replace hokl := Lib.hid hokl
          replace e0 := Lib.hid e0
          go_wp2
          go_loopw [63] (fun i wr => ∃ k : Nat, k ≤ (rowAt r t 0).length ∧ i = .int .i64 k ∧ (∃ y : Later W1, wr = y.w) ∧ (∀ j, j < k → ¬ (nth (rowAt r t 0) j = true ∧ okAt r 1 o j = true))) (fun i _ => (rowAt r t 0).length - (intOf i).toNat)
          case atStart => exact ⟨0, Nat.zero_le _, rfl, ⟨x, rfl⟩, by omega⟩
          case round =>
            clear x
            obtain ⟨k, hkl, rfl, ⟨x, rfl⟩, hz⟩ := hrel
            replace hz := Lib.hid hz
            by_cases hlt : k < (rowAt r t 0).length
            · obtain ⟨b1, o1, rfl, hb1', d0⟩ := hu0.out k hlt
              have hlt2 : k < r.ok.length := by rw [hok.out]; exact hlt
              obtain ⟨bk, ok, rfl, hbk, uk, k0, hK⟩ := hk.out k hlt2
              obtain ⟨ak, ck', rfl, _, hkr⟩ := hK.opened
              have hlt3 := hokl.out k hlt2
              obtain ⟨b2, o2, rfl, hb2', d1⟩ := hkr.out o hlt3
              have hno2 := Lib.hid (@pairU_no r t 1 o k hlt)
              cases hA : nth (rowAt r t 0) k <;> cases hB : nth (nth r.ok k) o <;> rw [hA] at d0 <;> rw [hB] at d1
              case true.true =>
                go_wp2
                go_ret; exact ⟨ret_bool (by rw [hend.out]; exact (hno2.out hA hB).symm), x.down hb1⟩
              all_goals
                go_wp2
                go_roundw
                case rel => exact ⟨k + 1, by omega, by go_num, ⟨x, rfl⟩, all_step hz.out (fun h => by have h1 := h.1; have h2 : nth (nth r.ok k) o = true := h.2; first | exact absurd h1 (by rw [hA]; decide) | exact absurd h2 (by rw [hB]; decide))⟩
                case measure => simp [intOf]; omega
            · obtain rfl : k = (rowAt r t 0).length := by omega
              go_wp2
              go_ret; exact ⟨ret_bool (by rw [hend.out]; exact (hyes.out hz.out).symm), x.down hb1⟩
      · have hk2 : (r.kind == 2) = false := by simp [hkind]
        have hpc : cntOK p r = true := by
          rcases ruleOK_iff.1 hro.out with h' | h'
          · exact h'.2
          · omega
        have hend := Lib.hid (@struckB_cnt r t pane o a hix.out hnd.out hkind)
        obtain ⟨hhl, _, hat⟩ := cnt_at hpc
        have hrow : ∀ k, k < r.panes.length → (nth r.hits k).length = (rowAt r t k).length := fun k hk => by
          rw [(hat k hk).2.2.2]; exact (hs.out.row _ (by have := hin.out k hk; have := hs.out.len; omega)).symm
        replace hhl := Lib.hid hhl
        replace hrow := Lib.hid hrow
        clear hat hkind
        go_wp2
        go_loopw [16, 17, 102] (fun lv mv i wr => ∃ k : Nat, k ≤ r.panes.length ∧ i = .int .i64 k ∧ lv = .int .i64 (leastU r t pane o k) ∧ mv = .int .i64 (mostU r t pane o k) ∧ ∃ y : Later W1, wr = y.w) (fun _ _ i _ => r.panes.length - (intOf i).toNat)
        case atStart => exact ⟨0, Nat.zero_le _, rfl, rfl, rfl, x, rfl⟩
        case round =>
          clear x
          obtain ⟨k, hkl, rfl, rfl, rfl, ⟨x, rfl⟩⟩ := hrel
          have hbd1 := leastU_bd r t pane o k
          have hbd2 := mostU_bd r t pane o k
          by_cases hlt : k < r.panes.length
          · obtain ⟨g1, g2⟩ := hin.out k hlt
            have hkh : k < r.hits.length := by rw [hhl.out]; exact hlt
            have hrk := hrow.out k hlt
            have HL : Hid (leastU r t pane o (k + 1) = if missU r t pane o k (rowAt r t k).length = true then leastU r t pane o k else leastU r t pane o k + 1) := Lib.hid rfl
            have HM : Hid (mostU r t pane o (k + 1) = if hitU r t pane o k (rowAt r t k).length = true then mostU r t pane o k + 1 else mostU r t pane o k) := Lib.hid rfl
            obtain ⟨bq, oq, rfl, hbq, c0⟩ := hq.out k hlt
            obtain ⟨bt, ot, rfl, hbt, ut, ct0, hU⟩ := htab.out _ g2
            rw [show nth t (nth r.panes k).toNat = rowAt r t k from rfl] at hU
            obtain ⟨au, cu, rfl, lu, hu⟩ := hU.opened
            obtain ⟨bh, oh, rfl, hbh, uh, ch0, hH⟩ := hh.out k hkh
            obtain ⟨avh, cvh, rfl, lvh, hhu⟩ := hH.opened
            replace hrk := Lib.hid hrk
            clear hU hH
            go_wp2
            go_loopw [20, 21, 112] (fun hv mv i wr => ∃ j : Nat, j ≤ (rowAt r t k).length ∧ i = .int .i64 j ∧ hv = .bool (hitU r t pane o k j) ∧ mv = .bool (missU r t pane o k j) ∧ ∃ y : Later W1, wr = y.w) (fun _ _ i _ => (rowAt r t k).length - (intOf i).toNat)
            case atStart => exact ⟨0, Nat.zero_le _, rfl, rfl, rfl, x, rfl⟩
            case round =>
              clear x
              obtain ⟨j, hjl, rfl, rfl, rfl, ⟨x, rfl⟩⟩ := hrel
              by_cases hjt : j < (rowAt r t k).length
              · obtain ⟨b1, o1, rfl, hb1', d0⟩ := hu.out j hjt
                have hjt2 : j < (nth r.hits k).length := by rw [hrk.out]; exact hjt
                obtain ⟨b2, o2, rfl, hb2', d1⟩ := hhu.out j hjt2
                have SH : Hid (hitU r t pane o k (j + 1) = (hitU r t pane o k j || (isAt r t pane o k j && nth (nth r.hits k) j))) := Lib.hid rfl
                have SM : Hid (missU r t pane o k (j + 1) = (missU r t pane o k j || (isAt r t pane o k j && !nth (nth r.hits k) j))) := Lib.hid rfl
                obtain ⟨hv0, hhv⟩ : ∃ b, hitU r t pane o k j = b := ⟨_, rfl⟩
                obtain ⟨mv0, hmv⟩ : ∃ b, missU r t pane o k j = b := ⟨_, rfl⟩
                rw [hhv, hmv]
                rw [hhv] at SH
                rw [hmv] at SM
                cases hP : (nth r.panes k == (pane : Int))
                · have hI : isAt r t pane o k j = nth (rowAt r t k) j := by unfold isAt; rw [if_neg (ne_beqI hP)]
                  rw [hI] at SH SM
                  cases hA : nth (rowAt r t k) j <;> cases hB : nth (nth r.hits k) j <;> cases hv0 <;> cases mv0 <;> rw [hA] at d0 SH SM <;> rw [hB] at d1 SH SM
                  all_goals
                    go_wp2
                    go_roundw
                    case rel => exact ⟨j + 1, by omega, by go_num, by rw [SH.out]; rfl, by rw [SM.out]; rfl, x, rfl⟩
                    case measure => simp [intOf]; omega
                · cases hJ : ((j : Int) == (o : Int))
                  · have hI : isAt r t pane o k j = false := by unfold isAt; rw [if_pos (eq_beqI hP), decide_eq_false (ne_beqI hJ)]
                    rw [hI] at SH SM
                    cases hv0 <;> cases mv0
                    all_goals
                      go_wp2
                      go_roundw
                      case rel => exact ⟨j + 1, by omega, by go_num, by rw [SH.out]; rfl, by rw [SM.out]; rfl, x, rfl⟩
                      case measure => simp [intOf]; omega
                  · have hI : isAt r t pane o k j = true := by unfold isAt; rw [if_pos (eq_beqI hP), decide_eq_true (eq_beqI hJ)]
                    rw [hI] at SH SM
                    cases hB : nth (nth r.hits k) j <;> cases hv0 <;> cases mv0 <;> rw [hB] at d1 SH SM
                    all_goals
                      go_wp2
                      go_roundw
                      case rel => exact ⟨j + 1, by omega, by go_num, by rw [SH.out]; rfl, by rw [SM.out]; rfl, x, rfl⟩
                      case measure => simp [intOf]; omega
              · obtain rfl : j = (rowAt r t k).length := by omega
                cases hH : hitU r t pane o k (rowAt r t k).length <;> cases hM : missU r t pane o k (rowAt r t k).length <;> rw [hH] at HM <;> rw [hM] at HL
                all_goals
                  go_wp2
                  go_roundw
                  case rel => exact ⟨k + 1, by omega, by go_num, by first | (rw [HL.out, if_pos rfl]) | (rw [HL.out, if_neg (by decide)]), by first | (rw [HM.out, if_pos rfl]) | (rw [HM.out, if_neg (by decide)]), x, rfl⟩
                  case measure => simp [intOf]; omega
          · obtain rfl : k = r.panes.length := by omega
            go_wp2
            go_ret; exact ⟨ret_bool hend.out.symm, x.down hb1⟩
end Go.Proofs.Ytmpkbolabdmkkaa

/- CONTRACTS of the reference's free and struck. -/
namespace Go.Proofs.Ytmpkbolabdmkkaa
open Go.RowKit

set_option maxRecDepth 100000 in
set_option maxHeartbeats 1000000 in
theorem rfree {W : World} (x : Later W) (vl vh : Value) (l h : List Bool) (hl : IsBools W vl l) (hh : IsBools W vh h) (he : h.length = l.length) :
    Calls Try.prog 145 #[vl, vh] x.w (Ends W (.tuple #[.bool (missF l h l.length), .bool (hitF l h l.length)])) := by
  obtain ⟨al, cl, rfl, ll, hL⟩ := hl.opened
  obtain ⟨ah, ch, rfl, lh, hH⟩ := hh.opened
  clear hl hh
  replace he := Lib.hid he
  go_enter Try.func145, Try.ntmps145
  go_wp2
  go_loopw [6, 7, 8] (fun mv hv i wr => ∃ k : Nat, k ≤ l.length ∧ i = .int .i64 k ∧ mv = .bool (missF l h k) ∧ hv = .bool (hitF l h k) ∧ ∃ y : Later W, wr = y.w) (fun _ _ i _ => l.length - (intOf i).toNat)
  case atStart => exact ⟨0, Nat.zero_le _, rfl, rfl, rfl, x, rfl⟩
  case round =>
    clear x
    obtain ⟨k, hk, rfl, rfl, rfl, ⟨x, rfl⟩⟩ := hrel
    by_cases hlt : k < l.length
    · obtain ⟨b1, o1, rfl, hb1, d1⟩ := hL.out k hlt
      have hlt2 : k < h.length := by rw [he.out]; exact hlt
      obtain ⟨b2, o2, rfl, hb2, d2⟩ := hH.out k hlt2
      have SM : Hid (missF l h (k + 1) = (missF l h k || (nth l k && !nth h k))) := Lib.hid rfl
      have SH : Hid (hitF l h (k + 1) = (hitF l h k || (nth l k && nth h k))) := Lib.hid rfl
      obtain ⟨mv0, hmv⟩ : ∃ b, missF l h k = b := ⟨_, rfl⟩
      obtain ⟨hv0, hhv⟩ : ∃ b, hitF l h k = b := ⟨_, rfl⟩
      rw [hmv, hhv]
      rw [hmv] at SM
      rw [hhv] at SH
      cases hA : nth l k <;> cases hB : nth h k <;> cases mv0 <;> cases hv0 <;> rw [hA] at d1 SM SH <;> rw [hB] at d2 SM SH
      all_goals
        go_wp2
        go_roundw
        case rel => exact ⟨k + 1, by omega, by go_num, by rw [SM.out]; rfl, by rw [SH.out]; rfl, x, rfl⟩
        case measure => simp [intOf]; omega
    · obtain rfl : k = l.length := by omega
      go_wp2
      go_ret2
      exact ⟨rfl, x, rfl⟩

/-- a pair of options that keeps an option from being struck -/
def trip (r : Rl) (t : List (List Bool)) (pane o i k : Nat) : Bool :=
  nth (nth r.ok i) k && ((nth r.panes 0 == (pane : Int)) && ((i : Int) == (o : Int)) && nth (rowAt r t 1) k || (nth r.panes 1 == (pane : Int)) && ((k : Int) == (o : Int)) && nth (rowAt r t 0) i)

set_option maxRecDepth 100000 in
set_option maxHeartbeats 2000000 in
theorem rstruck {W : World} (x : Later W) (u2 u3 u6 vl : Value) (p : Prob) (r : Rl) (t : List (List Bool)) (pane o : Nat) (hr : IsRl W u2 u3 u6 r) (ht : IsBoolss W vl t) (hs : Shp p t) (hv : p.opts.length = p.panes.length) (hro : ruleOK p r = true)
    (hp : pane < p.opts.length) (ho : o < (nth p.opts pane).length) :
    Calls Try.prog 108 #[.agg #[.int .i64 r.item, .int .i64 r.kind, u2, u3, .int .i64 r.lo, .int .i64 r.hi, u6], vl, .int .i64 pane, .int .i64 o] x.w (Ends W (.bool (struckB r t pane o))) := by
  have hin := Lib.hid (shp_in hs hv hro)
  go_enter Try.func108, Try.ntmps108
  go_upto_region 1 with (fail)
  obtain ⟨W1, x1, e1, hb1, s1, p0, p1, p2, p3, p4, p5, p6⟩ := enter7 x (.int .i64 r.item) (.int .i64 r.kind) u2 u3 (.int .i64 r.lo) (.int .i64 r.hi) u6 87
  rw [e1]; clear e1
  obtain ⟨aq, cq, rfl, lq, hq⟩ := (hr.panes.below hb1).opened
  obtain ⟨ah, ch, rfl, lh, hh⟩ := (hr.hits.below hb1).opened
  obtain ⟨ak, ck, rfl, lk, hk⟩ := (hr.ok.below hb1).opened
  obtain ⟨at_, ct, rfl, lt, htab⟩ := (ht.below hb1).opened
  clear hr ht
  replace hs := Lib.hid hs
  replace hro := Lib.hid hro
  replace hv := Lib.hid hv
  replace hp := Lib.hid hp
  replace ho := Lib.hid ho
  by_cases hkind : r.kind = 2
  · have hk2 : (r.kind == 2) = true := by simp [hkind]
    have hpc : pairOK p r = true := by
      rcases ruleOK_iff.1 hro.out with h' | h'
      · omega
      · exact h'.2
    obtain ⟨h1, hx1, hx2, hx3, h5, h6, h7, h8, h9⟩ := pair_at hpc
    clear hx1 hx2 hx3
    have i0 := hin.out 0 (by omega)
    have i1 := hin.out 1 (by omega)
    have hr0 : (rowAt r t 0).length = (nth p.opts (nth r.panes 0).toNat).length := hs.out.row _ (by have := hv.out; omega)
    have hr1 : (rowAt r t 1).length = (nth p.opts (nth r.panes 1).toNat).length := hs.out.row _ (by have := hv.out; omega)
    have hokl := Lib.hid (h8.trans hr0.symm)
    have hokr := Lib.hid (fun i (hi : i < r.ok.length) => (h9 i hi).trans hr1.symm)
    have hlp : 1 < r.panes.length := by omega
    have hnone := Lib.hid (@struckB_none r t pane o)
    have htwo := Lib.hid (fun a ha h => @struckB_two r t pane o a h1 h7 hkind ha h)
    have hoA : nth r.panes 0 = (pane : Int) → o < (rowAt r t 0).length := fun e => by rw [hr0, e]; exact ho.out
    have hoB : nth r.panes 1 = (pane : Int) → o < (rowAt r t 1).length := fun e => by rw [hr1, e]; exact ho.out
    obtain ⟨bq, oq, rfl, hbq, q0⟩ := hq.out 0 (by omega)
    obtain ⟨_, _, he, _, q1⟩ := hq.out 1 hlp
    cases he
    simp only [Nat.add_zero] at q0
    obtain ⟨bt, ot, rfl, hbt, ut0, t0, hU0⟩ := htab.out _ i0.2
    obtain ⟨_, _, he, _, ut1, t1, hU1⟩ := htab.out _ i1.2
    cases he
    obtain ⟨au0, cu0, rfl, lu0, hu0⟩ := hU0.opened
    obtain ⟨au1, cu1, rfl, lu1, hu1⟩ := hU1.opened
    rw [show nth t (nth r.panes 0).toNat = rowAt r t 0 from rfl] at t0 hu0 lu0
    rw [show nth t (nth r.panes 1).toNat = rowAt r t 1 from rfl] at t1 hu1 lu1
    clear hU0 hU1 p0 p3 p4 p5 hh lh hr0 hr1 h8 h9
    cases hP0 : (nth r.panes 0 == (pane : Int))
    · cases hP1 : (nth r.panes 1 == (pane : Int))
      · have hst := hnone.out (fun k hk => by rcases (show k = 0 ∨ k = 1 by omega) with rfl | rfl; exact ne_beqI hP0; exact ne_beqI hP1)
        have hall : Hid ((∀ j, j < (rowAt r t 0).length → ∀ k, k < (rowAt r t 1).length → trip r t pane o j k = false) → struckB r t pane o = false) := Lib.hid (fun _ => hst)
        replace h1 := Lib.hid h1
        clear hst hkind
        go_wp2
        go_loopw [9] (fun iv wr => ∃ i : Nat, i ≤ (rowAt r t 0).length ∧ iv = .int .i64 i ∧ (∃ y : Later W1, wr = y.w) ∧ (∀ j, j < i → ∀ k, k < (rowAt r t 1).length → trip r t pane o j k = false)) (fun iv _ => (rowAt r t 0).length - (intOf iv).toNat)
        case atStart => exact ⟨0, Nat.zero_le _, rfl, ⟨x1, rfl⟩, by omega⟩
        case round =>
          clear x1
          obtain ⟨i, hil, rfl, ⟨x, rfl⟩, hz⟩ := hrel
          replace hz := Lib.hid hz
          by_cases hlt : i < (rowAt r t 0).length
          · go_wp2
            go_loopw [10] (fun kv wr => ∃ k : Nat, k ≤ (rowAt r t 1).length ∧ kv = .int .i64 k ∧ (∃ y : Later W1, wr = y.w) ∧ (∀ j, j < k → trip r t pane o i j = false)) (fun kv _ => (rowAt r t 1).length - (intOf kv).toNat)
            case atStart => exact ⟨0, Nat.zero_le _, rfl, ⟨x, rfl⟩, by omega⟩
            case round =>
              clear x
              obtain ⟨k, hkl, rfl, ⟨x, rfl⟩, hz2⟩ := hrel
              replace hz2 := Lib.hid hz2
              by_cases hlt2 : k < (rowAt r t 1).length
              · have hlok : i < r.ok.length := by rw [hokl.out]; exact hlt
                have hlok2 : k < (nth r.ok i).length := by rw [hokr.out i hlok]; exact hlt2
                obtain ⟨bk, ok, rfl, hbk, uk, k0, hK⟩ := hk.out i hlok
                obtain ⟨ak, ck', rfl, _, hkr⟩ := hK.opened
                obtain ⟨bw, ow, rfl, hbw, d0⟩ := hkr.out k hlok2
                obtain ⟨b0, o0, rfl, hb0', r0⟩ := hu0.out i hlt
                obtain ⟨b1, o1, rfl, hb1', r1⟩ := hu1.out k hlt2
                clear hK
                cases hA : nth (nth r.ok i) k <;> rw [hA] at d0
                · go_wp2
                  go_roundw
                  case rel => exact ⟨k + 1, by omega, by go_num, ⟨x, rfl⟩, all_step hz2.out (by simp [trip, hA])⟩
                  case measure => simp [intOf]; omega
                · go_wp2
                  go_roundw
                  case rel => exact ⟨k + 1, by omega, by go_num, ⟨x, rfl⟩, all_step hz2.out (by simp [trip, hP0, hP1])⟩
                  case measure => simp [intOf]; omega
              · obtain rfl : k = (rowAt r t 1).length := by omega
                go_wp2
                go_roundw
                case rel => exact ⟨i + 1, by omega, by go_num, ⟨x, rfl⟩, all_step hz.out hz2.out⟩
                case measure => simp [intOf]; omega
          · obtain rfl : i = (rowAt r t 0).length := by omega
            go_wp2
            go_ret; exact ⟨ret_bool (hall.out hz.out).symm, x.down hb1⟩
      · have hst := htwo.out 1 (by omega) (eq_beqI hP1)
        have hno : Hid (∀ i, i < (rowAt r t 0).length → nth (rowAt r t 0) i = true → nth (nth r.ok i) o = true → struckB r t pane o = false) := Lib.hid (fun i hi h2 h3 => by rw [hst]; exact pairU_no (a := 1) hi h2 h3)
        have hall : Hid ((∀ j, j < (rowAt r t 0).length → ∀ k, k < (rowAt r t 1).length → trip r t pane o j k = false) → struckB r t pane o = true) := Lib.hid (fun hh => by
          rw [hst]
          refine pairU_yes (a := 1) fun j hj h2 => ?_
          have h3 := hh j hj o (hoB (eq_beqI hP1))
          have h4 : nth (nth r.ok j) o = true := h2.2
          have h5 : nth (rowAt r t 0) j = true := h2.1
          simp [trip, hP1, h4, h5] at h3)
        replace h1 := Lib.hid h1
        clear hst hkind
        go_wp2
        go_loopw [9] (fun iv wr => ∃ i : Nat, i ≤ (rowAt r t 0).length ∧ iv = .int .i64 i ∧ (∃ y : Later W1, wr = y.w) ∧ (∀ j, j < i → ∀ k, k < (rowAt r t 1).length → trip r t pane o j k = false)) (fun iv _ => (rowAt r t 0).length - (intOf iv).toNat)
        case atStart => exact ⟨0, Nat.zero_le _, rfl, ⟨x1, rfl⟩, by omega⟩
        case round =>
          clear x1
          obtain ⟨i, hil, rfl, ⟨x, rfl⟩, hz⟩ := hrel
          replace hz := Lib.hid hz
          by_cases hlt : i < (rowAt r t 0).length
          · go_wp2
            go_loopw [10] (fun kv wr => ∃ k : Nat, k ≤ (rowAt r t 1).length ∧ kv = .int .i64 k ∧ (∃ y : Later W1, wr = y.w) ∧ (∀ j, j < k → trip r t pane o i j = false)) (fun kv _ => (rowAt r t 1).length - (intOf kv).toNat)
            case atStart => exact ⟨0, Nat.zero_le _, rfl, ⟨x, rfl⟩, by omega⟩
            case round =>
              clear x
              obtain ⟨k, hkl, rfl, ⟨x, rfl⟩, hz2⟩ := hrel
              replace hz2 := Lib.hid hz2
              by_cases hlt2 : k < (rowAt r t 1).length
              · have hlok : i < r.ok.length := by rw [hokl.out]; exact hlt
                have hlok2 : k < (nth r.ok i).length := by rw [hokr.out i hlok]; exact hlt2
                obtain ⟨bk, ok, rfl, hbk, uk, k0, hK⟩ := hk.out i hlok
                obtain ⟨ak, ck', rfl, _, hkr⟩ := hK.opened
                obtain ⟨bw, ow, rfl, hbw, d0⟩ := hkr.out k hlok2
                obtain ⟨b0, o0, rfl, hb0', r0⟩ := hu0.out i hlt
                obtain ⟨b1, o1, rfl, hb1', r1⟩ := hu1.out k hlt2
                clear hK
                cases hA : nth (nth r.ok i) k <;> rw [hA] at d0
                · go_wp2
                  go_roundw
                  case rel => exact ⟨k + 1, by omega, by go_num, ⟨x, rfl⟩, all_step hz2.out (by simp [trip, hA])⟩
                  case measure => simp [intOf]; omega
                · cases hI : ((k : Int) == (o : Int))
                  · go_wp2
                    go_roundw
                    case rel => exact ⟨k + 1, by omega, by go_num, ⟨x, rfl⟩, all_step hz2.out (by simp [trip, hP0, hP1, hI])⟩
                    case measure => simp [intOf]; omega
                  · cases hR : nth (rowAt r t 0) i <;> rw [hR] at r0
                    · go_wp2
                      go_roundw
                      case rel => exact ⟨k + 1, by omega, by go_num, ⟨x, rfl⟩, all_step hz2.out (by simp [trip, hP0, hP1, hR])⟩
                      case measure => simp [intOf]; omega
                    · have hyes := hno.out i hlt hR (by have := eq_beq hI; subst this; exact hA)
                      replace hyes := Lib.hid hyes
                      go_wp2
                      go_ret; exact ⟨ret_bool hyes.out.symm, x.down hb1⟩
              · obtain rfl : k = (rowAt r t 1).length := by omega
                go_wp2
                go_roundw
                case rel => exact ⟨i + 1, by omega, by go_num, ⟨x, rfl⟩, all_step hz.out hz2.out⟩
                case measure => simp [intOf]; omega
          · obtain rfl : i = (rowAt r t 0).length := by omega
            go_wp2
            go_ret; exact ⟨ret_bool (hall.out hz.out).symm, x.down hb1⟩
    · have hP1 : (nth r.panes 1 == (pane : Int)) = false := by
        cases h : (nth r.panes 1 == (pane : Int))
        · rfl
        · exact absurd ((eq_beqI hP0).trans (eq_beqI h).symm) h7
      · have hst := htwo.out 0 (by omega) (eq_beqI hP0)
        have hno : Hid (∀ k, k < (rowAt r t 1).length → nth (rowAt r t 1) k = true → nth (nth r.ok o) k = true → struckB r t pane o = false) := Lib.hid (fun k hk h2 h3 => by rw [hst]; exact pairU_no (a := 0) hk h2 h3)
        have hall : Hid ((∀ j, j < (rowAt r t 0).length → ∀ k, k < (rowAt r t 1).length → trip r t pane o j k = false) → struckB r t pane o = true) := Lib.hid (fun hh => by
          rw [hst]
          refine pairU_yes (a := 0) fun j hj h2 => ?_
          have h3 := hh o (hoA (eq_beqI hP0)) j hj
          have h4 : nth (nth r.ok o) j = true := h2.2
          have h5 : nth (rowAt r t 1) j = true := h2.1
          simp [trip, hP0, h4, h5] at h3)
        replace h1 := Lib.hid h1
        clear hst hkind
        go_wp2
        go_loopw [9] (fun iv wr => ∃ i : Nat, i ≤ (rowAt r t 0).length ∧ iv = .int .i64 i ∧ (∃ y : Later W1, wr = y.w) ∧ (∀ j, j < i → ∀ k, k < (rowAt r t 1).length → trip r t pane o j k = false)) (fun iv _ => (rowAt r t 0).length - (intOf iv).toNat)
        case atStart => exact ⟨0, Nat.zero_le _, rfl, ⟨x1, rfl⟩, by omega⟩
        case round =>
          clear x1
          obtain ⟨i, hil, rfl, ⟨x, rfl⟩, hz⟩ := hrel
          replace hz := Lib.hid hz
          by_cases hlt : i < (rowAt r t 0).length
          · go_wp2
            go_loopw [10] (fun kv wr => ∃ k : Nat, k ≤ (rowAt r t 1).length ∧ kv = .int .i64 k ∧ (∃ y : Later W1, wr = y.w) ∧ (∀ j, j < k → trip r t pane o i j = false)) (fun kv _ => (rowAt r t 1).length - (intOf kv).toNat)
            case atStart => exact ⟨0, Nat.zero_le _, rfl, ⟨x, rfl⟩, by omega⟩
            case round =>
              clear x
              obtain ⟨k, hkl, rfl, ⟨x, rfl⟩, hz2⟩ := hrel
              replace hz2 := Lib.hid hz2
              by_cases hlt2 : k < (rowAt r t 1).length
              · have hlok : i < r.ok.length := by rw [hokl.out]; exact hlt
                have hlok2 : k < (nth r.ok i).length := by rw [hokr.out i hlok]; exact hlt2
                obtain ⟨bk, ok, rfl, hbk, uk, k0, hK⟩ := hk.out i hlok
                obtain ⟨ak, ck', rfl, _, hkr⟩ := hK.opened
                obtain ⟨bw, ow, rfl, hbw, d0⟩ := hkr.out k hlok2
                obtain ⟨b0, o0, rfl, hb0', r0⟩ := hu0.out i hlt
                obtain ⟨b1, o1, rfl, hb1', r1⟩ := hu1.out k hlt2
                clear hK
                cases hA : nth (nth r.ok i) k <;> rw [hA] at d0
                · go_wp2
                  go_roundw
                  case rel => exact ⟨k + 1, by omega, by go_num, ⟨x, rfl⟩, all_step hz2.out (by simp [trip, hA])⟩
                  case measure => simp [intOf]; omega
                · cases hI : ((i : Int) == (o : Int))
                  · go_wp2
                    go_roundw
                    case rel => exact ⟨k + 1, by omega, by go_num, ⟨x, rfl⟩, all_step hz2.out (by simp [trip, hP0, hP1, hI])⟩
                    case measure => simp [intOf]; omega
                  · cases hR : nth (rowAt r t 1) k <;> rw [hR] at r1
                    · go_wp2
                      go_roundw
                      case rel => exact ⟨k + 1, by omega, by go_num, ⟨x, rfl⟩, all_step hz2.out (by simp [trip, hP0, hP1, hR])⟩
                      case measure => simp [intOf]; omega
                    · have hyes := hno.out k hlt2 hR (by have := eq_beq hI; subst this; exact hA)
                      replace hyes := Lib.hid hyes
                      go_wp2
                      go_ret; exact ⟨ret_bool hyes.out.symm, x.down hb1⟩
              · obtain rfl : k = (rowAt r t 1).length := by omega
                go_wp2
                go_roundw
                case rel => exact ⟨i + 1, by omega, by go_num, ⟨x, rfl⟩, all_step hz.out hz2.out⟩
                case measure => simp [intOf]; omega
          · obtain rfl : i = (rowAt r t 0).length := by omega
            go_wp2
            go_ret; exact ⟨ret_bool (hall.out hz.out).symm, x.down hb1⟩
  · have hk2 : (r.kind == 2) = false := by simp [hkind]
    have hpc : cntOK p r = true := by
      rcases ruleOK_iff.1 hro.out with h' | h'
      · exact h'.2
      · omega
    obtain ⟨hhl, hok0, hat⟩ := cnt_at hpc
    clear hok0
    have hrow : ∀ k, k < r.panes.length → (nth r.hits k).length = (rowAt r t k).length := fun k hk => by
      rw [(hat k hk).2.2.2]; exact (hs.out.row _ (by have := hin.out k hk; have := hs.out.len; omega)).symm
    have hon : ∀ k, k < r.panes.length → nth r.panes k = (pane : Int) → o < (rowAt r t k).length := fun k hk e => by
      rw [← hrow k hk, (hat k hk).2.2.2, e]; exact ho.out
    have hend := Lib.hid (@struckB_ref r t pane o hkind hon)
    replace hon := Lib.hid hon
    replace hhl := Lib.hid hhl
    replace hrow := Lib.hid hrow
    clear hat hkind
    go_wp2
    go_loopw [11, 12, 13, 14, 15] (fun lv mv tv ev i wr => ∃ k : Nat, k ≤ r.panes.length ∧ i = .int .i64 k ∧ lv = .int .i64 (leastU r t pane o k) ∧ mv = .int .i64 (mostU r t pane o k) ∧ tv = .bool (thereU r pane k) ∧ ev = .bool (emptyU r t pane o k) ∧ ∃ y : Later W1, wr = y.w) (fun _ _ _ _ i _ => r.panes.length - (intOf i).toNat)
    case atStart => exact ⟨0, Nat.zero_le _, rfl, rfl, rfl, rfl, rfl, x1, rfl⟩
    case round =>
      clear x1
      obtain ⟨k, hkl, rfl, rfl, rfl, rfl, rfl, ⟨x, rfl⟩⟩ := hrel
      have hbd1 := leastU_bd r t pane o k
      have hbd2 := mostU_bd r t pane o k
      by_cases hlt : k < r.panes.length
      · obtain ⟨g1, g2⟩ := hin.out k hlt
        have hkh : k < r.hits.length := by rw [hhl.out]; exact hlt
        have hrk := hrow.out k hlt
        have HL : Hid (leastU r t pane o (k + 1) = if missU r t pane o k (rowAt r t k).length = true then leastU r t pane o k else leastU r t pane o k + 1) := Lib.hid rfl
        have HM : Hid (mostU r t pane o (k + 1) = if hitU r t pane o k (rowAt r t k).length = true then mostU r t pane o k + 1 else mostU r t pane o k) := Lib.hid rfl
        have HT : Hid (thereU r pane (k + 1) = (thereU r pane k || (nth r.panes k == (pane : Int)))) := Lib.hid rfl
        have HE : Hid (emptyU r t pane o (k + 1) = (emptyU r t pane o k || (!missU r t pane o k (rowAt r t k).length && !hitU r t pane o k (rowAt r t k).length))) := Lib.hid rfl
        obtain ⟨bq, oq, rfl, hbq, c0⟩ := hq.out k hlt
        obtain ⟨bt, ot, rfl, hbt, ut, ct0, hU⟩ := htab.out _ g2
        rw [show nth t (nth r.panes k).toNat = rowAt r t k from rfl] at hU
        obtain ⟨bh, oh, rfl, hbh, uh, ch0, hH⟩ := hh.out k hkh
        have hF := Lib.hid (fun y : Later W1 => rfree y _ _ _ _ hU hH hrk)
        obtain ⟨au, cu, rfl, lu, hu⟩ := hU.opened
        obtain ⟨avh, cvh, rfl, lvh, hhu⟩ := hH.opened
        clear hU hH
        replace hrk := Lib.hid hrk
        cases hP : (nth r.panes k == (pane : Int))
        · have e := ne_beqI hP
          rw [← hitU_far (o := o) e, ← missU_far (o := o) e] at hF
          rw [hP] at HT
          obtain ⟨e0, he0⟩ : ∃ b, emptyU r t pane o k = b := ⟨_, rfl⟩
          obtain ⟨t0, ht0⟩ : ∃ b, thereU r pane k = b := ⟨_, rfl⟩
          rw [he0] at HE ⊢
          rw [ht0] at HT ⊢
          cases hM : missU r t pane o k (rowAt r t k).length <;> cases hH : hitU r t pane o k (rowAt r t k).length <;> rw [hM] at hF HL HE <;> rw [hH] at hF HM HE <;> cases e0
          all_goals
            go_wp2
            refine wp_region_later x (by kernel_rfl) (by kernel_rfl) ?_
            repeat (go_big_quiet_step ((go_at_call 145; exact hF.out _)))
            refine wpQuiet_nil ?_
            rintro _ ⟨x, rfl⟩
            go_wp2
            go_roundw
            case rel => exact ⟨k + 1, by omega, by go_num, by rw [HL.out]; simp, by rw [HM.out]; simp, by rw [HT.out, Bool.or_false], by rw [HE.out]; rfl, x, rfl⟩
            case measure => simp [intOf]; omega
        · have e := eq_beqI hP
          have hol := hon.out k hlt e
          obtain ⟨n1, n2⟩ := near_at (t := t) e hol
          rw [hP] at HT
          obtain ⟨e0, he0⟩ : ∃ b, emptyU r t pane o k = b := ⟨_, rfl⟩
          obtain ⟨t0, ht0⟩ : ∃ b, thereU r pane k = b := ⟨_, rfl⟩
          rw [he0] at HE ⊢
          rw [ht0] at HT ⊢
          have hoh : o < (nth r.hits k).length := by rw [hrk.out]; exact hol
          obtain ⟨b2, o2, rfl, hb2', d2⟩ := hhu.out o hoh
          rw [n1, n2] at HE
          rw [n1] at HM
          rw [n2] at HL
          clear n1 n2
          clear e
          cases hB : nth (nth r.hits k) o <;> rw [hB] at d2 HM HL HE <;> cases e0
          all_goals
            go_wp2
            refine wp_region_later x (by kernel_rfl) (by kernel_rfl) ?_
            repeat (go_big_quiet_step ((go_at_call 145; exact hF.out _)))
            refine wpQuiet_nil ?_
            rintro _ ⟨x, rfl⟩
            go_wp2
            go_roundw
            case rel => exact ⟨k + 1, by omega, by go_num, by rw [HL.out]; simp, by rw [HM.out]; simp, by rw [HT.out, Bool.or_true], by rw [HE.out]; rfl, x, rfl⟩
            case measure => simp [intOf]; omega
      · obtain rfl : k = r.panes.length := by omega
        cases hT : thereU r pane r.panes.length <;> cases hE : emptyU r t pane o r.panes.length <;> rw [hT, hE] at hend
        all_goals
          go_wp2
          go_ret; exact ⟨ret_bool (by rw [hend.out]; simp [cntU]), x.down hb1⟩
end Go.Proofs.Ytmpkbolabdmkkaa
