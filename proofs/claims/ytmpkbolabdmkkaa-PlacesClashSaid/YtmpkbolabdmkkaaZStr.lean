/- STRIKING: whether a rule excludes an option, and what is left when such options are struck, in plain Lean. -/
import Derived.Test.YtmpkbolabdmkkaaZPos
import Derived.Test.YtmpkbolabdmkkaaZc
import Derived.Test.YtmpkbolabdmkkaaZPlS
namespace Go.Proofs.Ytmpkbolabdmkkaa

/-- a table has the shape of a problem's options -/
structure Shp (p : Prob) (t : List (List Bool)) : Prop where
  len : t.length = p.opts.length
  row : ∀ i, i < p.opts.length → (nth t i).length = (nth p.opts i).length

/-- the row of the k-th pane of a rule -/
def rowAt (r : Rl) (t : List (List Bool)) (k : Nat) : List Bool := nth t (nth r.panes k).toNat
/-- option j of the k-th pane of a rule is left, where one pane has just option o -/
def isAt (r : Rl) (t : List (List Bool)) (pane o k j : Nat) : Bool := if nth r.panes k = (pane : Int) then decide ((j : Int) = (o : Int)) else nth (rowAt r t k) j
def hitU (r : Rl) (t : List (List Bool)) (pane o k : Nat) : Nat → Bool
  | 0 => false
  | j + 1 => hitU r t pane o k j || (isAt r t pane o k j && nth (nth r.hits k) j)
def missU (r : Rl) (t : List (List Bool)) (pane o k : Nat) : Nat → Bool
  | 0 => false
  | j + 1 => missU r t pane o k j || (isAt r t pane o k j && !nth (nth r.hits k) j)
def mostU (r : Rl) (t : List (List Bool)) (pane o : Nat) : Nat → Int
  | 0 => 0
  | k + 1 => if hitU r t pane o k (rowAt r t k).length = true then mostU r t pane o k + 1 else mostU r t pane o k
def leastU (r : Rl) (t : List (List Bool)) (pane o : Nat) : Nat → Int
  | 0 => 0
  | k + 1 => if missU r t pane o k (rowAt r t k).length = true then leastU r t pane o k else leastU r t pane o k + 1
theorem mostU_bd (r : Rl) (t : List (List Bool)) (pane o : Nat) : ∀ k : Nat, 0 ≤ mostU r t pane o k ∧ mostU r t pane o k ≤ k
  | 0 => ⟨Int.le_refl _, Int.le_refl _⟩
  | k + 1 => by have := mostU_bd r t pane o k; unfold mostU; split <;> omega
theorem leastU_bd (r : Rl) (t : List (List Bool)) (pane o : Nat) : ∀ k : Nat, 0 ≤ leastU r t pane o k ∧ leastU r t pane o k ≤ k
  | 0 => ⟨Int.le_refl _, Int.le_refl _⟩
  | k + 1 => by have := leastU_bd r t pane o k; unfold leastU; split <;> omega
/-- a row has an option left -/
def hasT (l : List Bool) : Bool := l.contains true
theorem hasT_of {l : List Bool} {j : Nat} (hj : j < l.length) (h : nth l j = true) : hasT l = true := by
  unfold hasT; rw [List.contains_iff_mem, ← h]; exact nth_mem hj
/-- another pane of the rule has no option left -/
def deadB (r : Rl) (t : List (List Bool)) (pane : Nat) : Bool := decide (∃ k, k < r.panes.length ∧ nth r.panes k ≠ (pane : Int) ∧ hasT (rowAt r t k) = false)
theorem deadB_yes {r : Rl} {t : List (List Bool)} {pane k : Nat} (hk : k < r.panes.length) (h : nth r.panes k ≠ (pane : Int)) (hc : hasT (rowAt r t k) = false) : deadB r t pane = true := by
  unfold deadB; rw [decide_eq_true_iff]; exact ⟨k, hk, h, hc⟩
theorem deadB_no {r : Rl} {t : List (List Bool)} {pane : Nat} (h : ∀ k, k < r.panes.length → nth r.panes k = (pane : Int) ∨ hasT (rowAt r t k) = true) : deadB r t pane = false := by
  unfold deadB; rw [decide_eq_false_iff_not]; rintro ⟨k, hk, h1, h2⟩
  rcases h k hk with h3 | h3
  · exact h1 h3
  · rw [h2] at h3; cases h3
/-- a pair of options is allowed -/
def okAt (r : Rl) (a o k : Nat) : Bool := if a = 0 then nth (nth r.ok o) k else nth (nth r.ok k) o
/-- an option has no partner -/
def pairU (r : Rl) (t : List (List Bool)) (a o : Nat) : Bool := decide (∀ k, k < (rowAt r t (1 - a)).length → ¬ (nth (rowAt r t (1 - a)) k = true ∧ okAt r a o k = true))
theorem pairU_no {r : Rl} {t : List (List Bool)} {a o k : Nat} (hk : k < (rowAt r t (1 - a)).length) (h1 : nth (rowAt r t (1 - a)) k = true) (h2 : okAt r a o k = true) : pairU r t a o = false := by
  unfold pairU; rw [decide_eq_false_iff_not]; exact fun h => h k hk ⟨h1, h2⟩
theorem pairU_yes {r : Rl} {t : List (List Bool)} {a o : Nat} (h : ∀ k, k < (rowAt r t (1 - a)).length → ¬ (nth (rowAt r t (1 - a)) k = true ∧ okAt r a o k = true)) : pairU r t a o = true := by
  unfold pairU; rw [decide_eq_true_iff]; exact h
/-- too few or too many are hit, whatever is laid -/
def cntU (r : Rl) (t : List (List Bool)) (pane o : Nat) : Bool := decide (min (mostU r t pane o r.panes.length) r.hi < max (leastU r t pane o r.panes.length) r.lo)
/-- an option can be struck because of a rule -/
def struckB (r : Rl) (t : List (List Bool)) (pane o : Nat) : Bool :=
  if idxL r.panes pane < 0 then false else if deadB r t pane = true then true else if r.kind = 2 then pairU r t (idxL r.panes pane).toNat o else cntU r t pane o

theorem idxL_cases (l : List Int) (x : Int) : (idxL l x = -1 ∧ ∀ i, i < l.length → nth l i ≠ x) ∨ ∃ a, a < l.length ∧ idxL l x = (a : Int) ∧ nth l a = x := by
  by_cases h : x ∈ l
  · refine .inr ⟨l.idxOf x, List.idxOf_lt_length_iff.2 h, by unfold idxL; rw [if_pos h], ?_⟩
    rw [nth_eq _ _ (List.idxOf_lt_length_iff.2 h)]; exact List.getElem_idxOf _
  · refine .inl ⟨by unfold idxL; rw [if_neg h], fun i hi e => h ?_⟩
    rw [← e, nth_eq _ _ hi]; exact List.getElem_mem _
theorem struckB_out {r : Rl} {t : List (List Bool)} {pane o : Nat} (h : idxL r.panes pane = -1) : struckB r t pane o = false := by unfold struckB; rw [h]; rfl
theorem struckB_dead {r : Rl} {t : List (List Bool)} {pane o a : Nat} (h : idxL r.panes pane = (a : Int)) (hd : deadB r t pane = true) : struckB r t pane o = true := by
  unfold struckB; rw [h, if_neg (by omega), if_pos hd]
theorem struckB_pair {r : Rl} {t : List (List Bool)} {pane o a : Nat} (h : idxL r.panes pane = (a : Int)) (hd : deadB r t pane = false) (hk : r.kind = 2) : struckB r t pane o = pairU r t a o := by
  unfold struckB; rw [h, if_neg (by omega), if_neg (by simp [hd]), if_pos hk]; rfl
theorem struckB_cnt {r : Rl} {t : List (List Bool)} {pane o a : Nat} (h : idxL r.panes pane = (a : Int)) (hd : deadB r t pane = false) (hk : ¬ r.kind = 2) : struckB r t pane o = cntU r t pane o := by
  unfold struckB; rw [h, if_neg (by omega), if_neg (by simp [hd]), if_neg hk]

theorem hitU_of {r : Rl} {t : List (List Bool)} {pane o k j : Nat} (h1 : isAt r t pane o k j = true) (h2 : nth (nth r.hits k) j = true) : ∀ n, j < n → hitU r t pane o k n = true
  | 0, h => absurd h (Nat.not_lt_zero _)
  | n + 1, h => by
    unfold hitU
    rcases Nat.lt_succ_iff_lt_or_eq.1 h with h' | rfl
    · rw [hitU_of h1 h2 n h', Bool.true_or]
    · rw [h1, h2]; simp
theorem missU_of {r : Rl} {t : List (List Bool)} {pane o k j : Nat} (h1 : isAt r t pane o k j = true) (h2 : nth (nth r.hits k) j = false) : ∀ n, j < n → missU r t pane o k n = true
  | 0, h => absurd h (Nat.not_lt_zero _)
  | n + 1, h => by
    unfold missU
    rcases Nat.lt_succ_iff_lt_or_eq.1 h with h' | rfl
    · rw [missU_of h1 h2 n h', Bool.true_or]
    · rw [h1, h2]; simp

/-- a table leaves what a filling has -/
def Leaves (p : Prob) (t : List (List Bool)) (f : List Int) : Prop := ∀ i, i < p.opts.length → nth (nth t i) (nth f i).toNat = true

/-- an option that an agreeing filling has is not struck, where what the filling has is left -/
theorem struck_sound {p : Prob} {r : Rl} {t : List (List Bool)} {f : List Int} (hv : p.opts.length = p.panes.length) (hr : ruleOK p r = true) (hs : Shp p t) (hf : ∀ i, i < p.opts.length → 0 ≤ nth f i ∧ nth f i < (nth p.opts i).length) (hl : Leaves p t f) (hk : keepsB r f = true)
    {pane : Nat} (hp : pane < p.opts.length) : struckB r t pane (nth f pane).toNat = false := by
  rcases idxL_cases r.panes pane with ⟨h, _⟩ | ⟨a, ha, hia, hpa⟩
  · exact struckB_out h
  rcases ruleOK_iff.1 hr with ⟨hkd, hc⟩ | ⟨hkd, hc⟩
  · obtain ⟨h1, _, h3⟩ := cnt_at hc
    have hin : ∀ k, k < r.panes.length → (nth r.panes k).toNat < p.opts.length := fun k hk => by have := h3 k hk; omega
    have hd : deadB r t pane = false := deadB_no fun k hk => .inr (by
      have := hin k hk
      have h5 := hl _ this
      have h6 := hf _ this
      exact hasT_of (by show (nth f (nth r.panes k).toNat).toNat < (nth t (nth r.panes k).toNat).length; rw [hs.row _ this]; omega) h5)
    have hk2 : ¬ r.kind = 2 := by omega
    rw [struckB_cnt hia hd hk2]
    rw [keepsB_cnt hk2] at hk
    obtain ⟨hlo, hhi⟩ := wi_iff.1 hk
    have his : ∀ k, k < r.panes.length → isAt r t pane (nth f pane).toNat k (chosenAt r f k).toNat = true := fun k hk => by
      unfold isAt
      by_cases e : nth r.panes k = (pane : Int)
      · rw [if_pos e]; unfold chosenAt; rw [e]; simp
      · rw [if_neg e]; exact hl _ (hin k hk)
    have hlt : ∀ k, k < r.panes.length → (chosenAt r f k).toNat < (rowAt r t k).length := fun k hk => by
      show (nth f (nth r.panes k).toNat).toNat < (nth t (nth r.panes k).toNat).length; have := hf _ (hin k hk); rw [hs.row _ (hin k hk)]; omega
    have hm : ∀ k, k ≤ r.panes.length → hitsTo r f k ≤ mostU r t pane (nth f pane).toNat k ∧ leastU r t pane (nth f pane).toNat k ≤ hitsTo r f k := by
      intro k
      induction k with
      | zero => exact fun _ => ⟨Int.le_refl _, Int.le_refl _⟩
      | succ k ih =>
        intro hk
        have := ih (by omega)
        have b1 := mostU_bd r t pane (nth f pane).toNat k
        unfold hitsTo mostU leastU
        cases hh : hitAt r f k
        · rw [if_neg (by simp), if_pos (missU_of (his k (by omega)) (by simpa [hitAt] using hh) _ (hlt k (by omega)))]
          constructor
          · split <;> omega
          · exact this.2
        · rw [if_pos rfl, if_pos (hitU_of (his k (by omega)) (by simpa [hitAt] using hh) _ (hlt k (by omega)))]
          constructor
          · omega
          · split <;> omega
    have := hm _ (Nat.le_refl _)
    unfold cntU
    rw [decide_eq_false_iff_not]
    omega
  · obtain ⟨h1, _, _, _, h5, h6, h7, h8, h9⟩ := pair_at hc
    have i0 : (nth r.panes 0).toNat < p.opts.length := by omega
    have i1 : (nth r.panes 1).toNat < p.opts.length := by omega
    have hin : ∀ k, k < r.panes.length → (nth r.panes k).toNat < p.opts.length := fun k hk => by
      rcases (by omega : k = 0 ∨ k = 1) with rfl | rfl
      · exact i0
      · exact i1
    have hd : deadB r t pane = false := deadB_no fun k hk => .inr (by
      have := hin k hk
      have h5 := hl _ this
      have h6 := hf _ this
      exact hasT_of (by show (nth f (nth r.panes k).toNat).toNat < (nth t (nth r.panes k).toNat).length; rw [hs.row _ this]; omega) h5)
    rw [struckB_pair hia hd hkd]
    rw [keepsB_pair hkd] at hk
    have hlt : ∀ k, k < r.panes.length → (chosenAt r f k).toNat < (rowAt r t k).length := fun k hk => by
      show (nth f (nth r.panes k).toNat).toNat < (nth t (nth r.panes k).toNat).length; have := hf _ (hin k hk); rw [hs.row _ (hin k hk)]; omega
    rcases (by omega : a = 0 ∨ a = 1) with rfl | rfl
    · refine pairU_no (k := (chosenAt r f 1).toNat) (hlt 1 (by omega)) (hl _ i1) ?_
      unfold okAt; rw [if_pos rfl]
      rw [← hk]; unfold chosenAt; rw [hpa]; rfl
    · refine pairU_no (k := (chosenAt r f 0).toNat) (hlt 0 (by omega)) (hl _ i0) ?_
      unfold okAt; rw [if_neg (by omega)]
      rw [← hk]; unfold chosenAt; rw [hpa]; rfl

/-! the passes -/
/-- some rule strikes an option -/
def anyB (p : Prob) (t : List (List Bool)) (i o : Nat) : Bool := decide (∃ m, m < p.rules.length ∧ struckB (nth p.rules m) t i o = true)
theorem anyB_yes {p : Prob} {t : List (List Bool)} {i o m : Nat} (hm : m < p.rules.length) (h : struckB (nth p.rules m) t i o = true) : anyB p t i o = true := by unfold anyB; rw [decide_eq_true_iff]; exact ⟨m, hm, h⟩
theorem anyB_no {p : Prob} {t : List (List Bool)} {i o : Nat} (h : ∀ m, m < p.rules.length → struckB (nth p.rules m) t i o = false) : anyB p t i o = false := by
  unfold anyB; rw [decide_eq_false_iff_not]; rintro ⟨m, hm, h'⟩; rw [h m hm] at h'; cases h'
def strikeB (p : Prob) (t : List (List Bool)) (i o : Nat) : Bool := nth (nth t i) o && anyB p t i o
def strikeT (p : Prob) (t : List (List Bool)) (i o : Nat) : List (List Bool) := if strikeB p t i o = true then setTab t i o false else t
def rowTo (p : Prob) (t : List (List Bool)) (i : Nat) : Nat → List (List Bool)
  | 0 => t
  | o + 1 => strikeT p (rowTo p t i o) i o
def passTo (p : Prob) (t : List (List Bool)) : Nat → List (List Bool)
  | 0 => t
  | i + 1 => rowTo p (passTo p t i) i (nth p.opts i).length
def passT (p : Prob) (t : List (List Bool)) : List (List Bool) := passTo p t p.opts.length
/-- how many options are left -/
def cntT (t : List (List Bool)) : Nat := (t.map fun l => l.count true).sum

theorem count_set {l : List Bool} {o : Nat} (ho : o < l.length) (h : nth l o = true) : (l.set o false).count true + 1 = l.count true := by
  induction l generalizing o with
  | nil => simp at ho
  | cons x l ih =>
    cases o with
    | zero =>
      have : x = true := h
      subst this; simp
    | succ o =>
      have h' : nth l o = true := h
      have := ih (o := o) (by simpa using ho) h'
      rw [List.set_cons_succ, List.count_cons, List.count_cons]; omega
theorem sum_set {α : Type} [Inhabited α] (g : α → Nat) {l : List α} {i : Nat} (hi : i < l.length) (x : α) : ((l.set i x).map g).sum + g (nth l i) = (l.map g).sum + g x := by
  induction l generalizing i with
  | nil => simp at hi
  | cons y l ih =>
    cases i with
    | zero => simp [nth]; omega
    | succ i =>
      have h' : nth (y :: l) (i + 1) = nth l i := rfl
      have := ih (i := i) (by simpa using hi)
      rw [List.set_cons_succ, h', List.map_cons, List.map_cons, List.sum_cons, List.sum_cons]; omega
theorem cntT_set {t : List (List Bool)} {i o : Nat} (hi : i < t.length) (ho : o < (nth t i).length) (h : nth (nth t i) o = true) : cntT (setTab t i o false) + 1 = cntT t := by
  have h1 := sum_set (fun l : List Bool => l.count true) hi ((nth t i).set o false)
  have h2 := count_set ho h
  unfold cntT setTab
  omega
theorem Shp.set {p : Prob} {t : List (List Bool)} (h : Shp p t) {i o : Nat} (b : Bool) : Shp p (setTab t i o b) := by
  refine ⟨by rw [setTab_len]; exact h.len, fun j hj => ?_⟩
  by_cases e : j = i
  · subst e; rw [nth_setTab_same (by rw [h.len]; exact hj), List.length_set]; exact h.row j hj
  · rw [nth_setTab_other e]; exact h.row j hj
theorem Shp.strike {p : Prob} {t : List (List Bool)} (h : Shp p t) (i o : Nat) : Shp p (strikeT p t i o) := by
  unfold strikeT; split
  · exact h.set _
  · exact h
theorem Shp.rowTo {p : Prob} {t : List (List Bool)} (h : Shp p t) (i : Nat) : ∀ o, Shp p (rowTo p t i o)
  | 0 => h
  | o + 1 => (h.rowTo i o).strike i o
theorem Shp.passTo {p : Prob} {t : List (List Bool)} (h : Shp p t) : ∀ i, Shp p (passTo p t i)
  | 0 => h
  | i + 1 => (h.passTo i).rowTo i _
theorem strikeT_yes {p : Prob} {t : List (List Bool)} {i o : Nat} (h : strikeB p t i o = true) : strikeT p t i o = setTab t i o false := by unfold strikeT; rw [if_pos h]
theorem strikeT_no {p : Prob} {t : List (List Bool)} {i o : Nat} (h : strikeB p t i o = false) : strikeT p t i o = t := by unfold strikeT; rw [if_neg (by simp [h])]
theorem cnt_strike {p : Prob} {t : List (List Bool)} (h : Shp p t) {i o : Nat} (hi : i < p.opts.length) (ho : o < (nth p.opts i).length) (hs : strikeB p t i o = true) : cntT (strikeT p t i o) < cntT t := by
  rw [strikeT_yes hs]
  unfold strikeB at hs
  rw [Bool.and_eq_true] at hs
  have := cntT_set (by rw [h.len]; exact hi) (by rw [h.row i hi]; exact ho) hs.1
  omega

theorem Leaves.strike {p : Prob} {t : List (List Bool)} {f : List Int} (hv : validP p = true) (hs : Shp p t) (hf : f ∈ agr p) (h : Leaves p t f) (i o : Nat) (hi : i < p.opts.length) : Leaves p (strikeT p t i o) f := by
  obtain ⟨m1, m2, m3, _⟩ := agr_mem hv hf
  have hag := (agr_mem hv hf).2.2.2
  cases hb : strikeB p t i o
  · rw [strikeT_no hb]; exact h
  · rw [strikeT_yes hb]
    intro j hj
    by_cases e : j = i
    · subst e
      rw [nth_setTab_same (by rw [hs.len]; exact hj)]
      by_cases e2 : (nth f j).toNat = o
      · exfalso
        unfold strikeB at hb
        rw [Bool.and_eq_true] at hb
        have h2 := hb.2
        unfold anyB at h2
        rw [decide_eq_true_iff] at h2
        obtain ⟨m, hm, hst⟩ := h2
        have hkp : keepsB (nth p.rules m) f = true := by
          cases hk : keepsB (nth p.rules m) f
          · rw [agreesB_bad hm hk] at hag; cases hag
          · rfl
        have := struck_sound (valid_len hv) (valid_rule hv hm) hs (fun i hi => m3 i (by rw [m2]; exact hi)) h hkp hj
        rw [e2, hst] at this; cases this
      · have := h j hj
        by_cases h3 : (nth f j).toNat < (nth t j).length
        · rw [nth_set_at (by have := hb; unfold strikeB at this; rw [Bool.and_eq_true] at this; rcases Nat.lt_or_ge o (nth t j).length with h4 | h4
                             · exact h4
                             · exfalso; have h5 := this.1; unfold nth at h5; rw [List.getD_eq_getElem?_getD, List.getElem?_eq_none (by simpa [nth] using h4)] at h5; cases h5), if_neg (Ne.symm e2)]
          exact this
        · exfalso
          unfold nth at this
          rw [List.getD_eq_getElem?_getD, List.getElem?_eq_none (by simpa [nth] using h3)] at this
          cases this
    · rw [nth_setTab_other e]; exact h j hj
theorem Leaves.rowTo {p : Prob} {t : List (List Bool)} {f : List Int} (hv : validP p = true) (hs : Shp p t) (hf : f ∈ agr p) (h : Leaves p t f) (i : Nat) (hi : i < p.opts.length) : ∀ o, Leaves p (rowTo p t i o) f
  | 0 => h
  | o + 1 => (h.rowTo hv hs hf i hi o).strike hv (hs.rowTo i o) hf i o hi
theorem Leaves.passTo {p : Prob} {t : List (List Bool)} {f : List Int} (hv : validP p = true) (hs : Shp p t) (hf : f ∈ agr p) (h : Leaves p t f) : ∀ i, i ≤ p.opts.length → Leaves p (passTo p t i) f
  | 0, _ => h
  | i + 1, hi => (h.passTo hv hs hf i (by omega)).rowTo hv (hs.passTo i) hf i (by omega) _

/-- pass after pass, until nothing is struck -/
inductive Prunes (p : Prob) : List (List Bool) → List (List Bool) → Prop
  | stop {t : List (List Bool)} : cntT (passT p t) = cntT t → Prunes p t (passT p t)
  | more {t out : List (List Bool)} : cntT (passT p t) < cntT t → Prunes p (passT p t) out → Prunes p t out
theorem Prunes.uniq {p : Prob} {t a b : List (List Bool)} (h : Prunes p t a) (h' : Prunes p t b) : a = b := by
  induction h generalizing b with
  | stop e => cases h' with
    | stop _ => rfl
    | more l _ => omega
  | more l _ ih => cases h' with
    | stop e => omega
    | more _ h2 => exact ih h2
theorem Prunes.shp {p : Prob} {t out : List (List Bool)} (h : Prunes p t out) (hs : Shp p t) : Shp p out := by
  induction h with
  | stop _ => exact hs.passTo _
  | more _ _ ih => exact ih (hs.passTo _)
theorem Prunes.leaves {p : Prob} {t out : List (List Bool)} (h : Prunes p t out) (hv : validP p = true) (hs : Shp p t) {f : List Int} (hf : f ∈ agr p) (hl : Leaves p t f) : Leaves p out f := by
  induction h with
  | stop _ => exact hl.passTo hv hs hf _ (Nat.le_refl _)
  | more _ _ ih => exact ih (hs.passTo _) (hl.passTo hv hs hf _ (Nat.le_refl _))
theorem shp_full (p : Prob) (b : Bool) : Shp p (fullTab p b) := ⟨fullTo_len p b (Nat.le_refl _), fun i hi => by unfold fullTab; rw [nth_fullTo p b (Nat.le_refl _) hi]; simp⟩
theorem leaves_full {p : Prob} (hv : validP p = true) {f : List Int} (hf : f ∈ agr p) : Leaves p (fullTab p true) f := by
  obtain ⟨m1, m2, m3, _⟩ := agr_mem hv hf
  intro i hi
  have := m3 i (by rw [m2]; exact hi)
  unfold fullTab
  rw [nth_fullTo p true (Nat.le_refl _) hi, nth_eq _ _ (by simp; omega)]
  simp
/-- pruning strikes nothing that is possible -/
theorem prunes_keeps {p : Prob} (hv : validP p = true) {t : List (List Bool)} (h : Prunes p (fullTab p true) t) {i o : Nat} (hi : i < p.opts.length) (ho : o < (nth p.opts i).length) (hp : nth (nth (possT p) i) o = true) : nth (nth t i) o = true := by
  obtain ⟨f, hf, hfo⟩ := (poss_iff hv hi ho).1 hp
  have := h.leaves hv (shp_full p true) hf (leaves_full hv hf) i hi
  rw [hfo] at this
  exact this
end Go.Proofs.Ytmpkbolabdmkkaa
