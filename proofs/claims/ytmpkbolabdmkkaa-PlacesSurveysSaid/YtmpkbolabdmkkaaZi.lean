/- RANGES OVER FUNCTIONS: what a call of an iterator over lists of numbers promises, and the statement that ranges over one. -/
import Derived.Test.YtmpkbolabdmkkaaZa
import Derived.RangeFuncKeeps
import Derived.RangeFuncBox
import Derived.RangeFuncLeaves
import Derived.RangeFuncCalls
import Derived.LoopIn
import Derived.TacticsInMore
import Derived.Deep.Quiet
import Derived.OrdersIn
import Derived.OwnWalkIn
namespace Go.Proofs.Ytmpkbolabdmkkaa
open Go.RowKit

/-- from block B on, what lay in w lies as it lay -/
structure Above (B : Nat) (w w' : World) : Prop where
  size : w.heap.size ≤ w'.heap.size
  block : ∀ k, B ≤ k → k < w.heap.size → w'.heap[k]? = w.heap[k]?
theorem Above.refl (B : Nat) (w : World) : Above B w w := ⟨Nat.le_refl _, fun _ _ _ => rfl⟩
theorem Above.trans {B : Nat} {a b c : World} (h : Above B a b) (k : Above B b c) : Above B a c :=
  ⟨Nat.le_trans h.size k.size, fun i h1 h2 => (k.block i h1 (Nat.lt_of_lt_of_le h2 h.size)).trans (h.block i h1 h2)⟩
theorem Above.mono {B B' : Nat} {a b : World} (h : Above B a b) (hB : B ≤ B') : Above B' a b := ⟨h.size, fun k h1 h2 => h.block k (Nat.le_trans hB h1) h2⟩
theorem Above.below {B : Nat} {a b : World} (h : Below a.heap.size a b) : Above B a b := ⟨h.size, fun k _ hk => h.block k hk⟩
theorem Above.setCell {B : Nat} {a b : World} (h : Above B a b) {p : Addr} (hp : p.block < B) (v : Value) : Above B a (b.setCell p v) :=
  h.trans ⟨(KeepsWalks.setCell b p v).size, fun k h1 _ => Below.heap_setCell b p v k (by omega)⟩

/-- the two worlds agree in all that lies below block B -/
structure Eqb (B : Nat) (w w' : World) : Prop where
  os : w'.os = w.os
  tape : w'.tape = w.tape
  output : w'.output = w.output
  size : B ≤ w'.heap.size
  block : ∀ k, k < B → w'.heap[k]? = w.heap[k]?
theorem Eqb.below {B : Nat} {w w' : World} (h : Below B w w') (hB : B ≤ w.heap.size) : Eqb B w w' := ⟨h.os, h.tape, h.output, Nat.le_trans hB h.size, h.block⟩
theorem Eqb.mono {B B' : Nat} {w w' : World} (h : Eqb B w w') (hB : B' ≤ B) : Eqb B' w w' := ⟨h.os, h.tape, h.output, Nat.le_trans hB h.size, fun k hk => h.block k (Nat.lt_of_lt_of_le hk hB)⟩
theorem Eqb.cell {B : Nat} {w w' : World} (h : Eqb B w w') {p : Addr} (hp : p.block < B) : w'.cell? p = w.cell? p := World.cell?_of_block (h.block _ hp)
theorem Eqb.frozen {B : Nat} {w w' : World} (h : Eqb B w w') {p : Addr} (hp : p.block < B) : w'.frozen? p = w.frozen? p := World.frozen?_of_block (h.block _ hp)
theorem Eqb.later {B : Nat} {W w w' : World} (h : Eqb B w w') (hB : W.heap.size ≤ B) (hl : ∃ y : Later W, w = y.w) : ∃ z : Later W, w' = z.w := by
  obtain ⟨y, rfl⟩ := hl
  exact ⟨⟨w', ⟨h.os.trans y.h.os, h.tape.trans y.h.tape, h.output.trans y.h.output, Nat.le_trans hB h.size, fun k hk => (h.block k (by omega)).trans (y.h.block k hk)⟩⟩, rfl⟩
theorem Eqb.putObj {B l : Nat} {w : World} (hs : B ≤ w.heap.size) (hl : B ≤ l) (o : Obj) : Eqb B w (w.putObj l o) := ⟨rfl, rfl, rfl, by rw [World.putObj_size]; exact hs, fun k hk => World.putObj_heap_other (by omega)⟩
/-- they agree below block B, and whatever cells lay in the first lie as they lay -/
structure Calm (B : Nat) (w w' : World) : Prop extends Eqb B w w' where
  grow : w.heap.size ≤ w'.heap.size
  cells : ∀ (k : Nat) (o : Obj), w.heap[k]? = some o → o.isCells = true → w'.heap[k]? = some o
theorem Calm.mono {B B' : Nat} {w w' : World} (h : Calm B w w') (hB : B' ≤ B) : Calm B' w w' := ⟨h.toEqb.mono hB, h.grow, h.cells⟩
theorem Calm.putObj {B l : Nat} {w : World} {o : Obj} (hl : w.heap[l]? = some o) (ho : o.isCells = false) (hB : B ≤ l) (o' : Obj) : Calm B w (w.putObj l o') := by
  have hs := (Array.getElem?_eq_some_iff.1 hl).1
  refine ⟨Eqb.putObj (by omega) hB o', by rw [World.putObj_size]; exact Nat.le_refl _, fun k q hk hq => (World.putObj_heap_other ?_).trans hk⟩
  rintro rfl
  rw [hl] at hk; cases hk; rw [ho] at hq; cases hq
theorem Calm.cell {B : Nat} {w w' : World} (h : Calm B w w') {a : Addr} {v : Value} (hc : w.cell? a = some v) : w'.cell? a = some v := by
  obtain ⟨o, ho, hk⟩ := cells_of_cell hc
  exact (World.cell?_of_block ((h.cells _ o ho hk).trans ho.symm)).trans hc
theorem IsInts.calm {B : Nat} {w w' : World} {v : Value} {L : List Int} (h : IsInts w v L) (hc : Calm B w w') : IsInts w' v L := by
  obtain ⟨a, c, hv, hle, h⟩ := h
  exact ⟨a, c, hv, hle, fun i hi => let ⟨b, o, ha, hb, hcell⟩ := h i hi; ⟨b, o, ha, Nat.lt_of_lt_of_le hb hc.grow, hc.cell hcell⟩⟩
/-- a world cut at block B: what is later than it agrees below B -/
theorem cut_at (A : World) {B : Nat} (hB : B ≤ A.heap.size) : ∃ (Wc : World) (x : Later Wc), x.w = A ∧ Wc.heap.size = B ∧ (∀ y : Later Wc, Eqb B A y.w) := by
  have hb : ∀ k, k < B → (A.heap.extract 0 B)[k]? = A.heap[k]? := fun k hk => by rw [Array.getElem?_extract_of_lt (by omega)]; simp
  have hs : (A.heap.extract 0 B).size = B := by simp; omega
  refine ⟨{ A with heap := A.heap.extract 0 B }, ⟨A, ⟨rfl, rfl, rfl, by show (A.heap.extract 0 B).size ≤ _; omega, fun k hk => (hb k (by change k < (A.heap.extract 0 B).size at hk; omega)).symm⟩⟩, rfl, hs, fun y => ?_⟩
  have hy : (A.heap.extract 0 B).size ≤ y.w.heap.size := y.h.size
  exact ⟨y.h.os, y.h.tape, y.h.output, by omega, fun k hk => (y.h.block k (by show k < (A.heap.extract 0 B).size; omega)).trans (hb k hk)⟩
theorem owns_above {B : Nat} {w w' : World} {e : TypeId} {sz n : Nat} {v : Value} {xs : List Value} (h : w.ownsRow B e sz v n xs) (ha : Above B w w') : w'.ownsRow B e sz v n xs := by
  refine ⟨h.1, ?_⟩
  rcases h.2 with h0 | ⟨g, cap, cur, h1, h2, h3, h4⟩
  · exact .inl h0
  · exact .inr ⟨g, cap, cur, h1, h2, (ha.block g h2 (Array.getElem?_eq_some_iff.1 h3).1).trans h3, h4⟩

/-- a problem's box, and the problem in it -/
structure RdP (Wb : World) (bp : Nat) (v0 v1 v2 : Value) (w : World) : Prop where
  later : ∃ y : Later Wb, w = y.w
  lt : bp < w.heap.size
  c0 : w.cell? ⟨bp, 0, none⟩ = some v0
  c1 : w.cell? ⟨bp, 1, none⟩ = some v1
  c2 : w.cell? ⟨bp, 2, none⟩ = some v2
theorem RdP.eqb {Wb : World} {bp B : Nat} {v0 v1 v2 : Value} {A C : World} (h : RdP Wb bp v0 v1 v2 A) (he : Eqb B A C) (hB : Wb.heap.size ≤ B) (hp : bp < B) : RdP Wb bp v0 v1 v2 C :=
  ⟨he.later hB h.later, Nat.lt_of_lt_of_le hp he.size, (he.cell (p := ⟨bp, 0, none⟩) hp).trans h.c0, (he.cell (p := ⟨bp, 1, none⟩) hp).trans h.c1, (he.cell (p := ⟨bp, 2, none⟩) hp).trans h.c2⟩

theorem below_putObj {B l : Nat} {a w : World} (h : Below B a w) (hl : B ≤ l) (o : Obj) : Below B a (w.putObj l o) :=
  ⟨h.os, h.tape, h.output, by rw [World.putObj_size]; exact h.size, fun k hk => (World.putObj_heap_other (by omega)).trans (h.block k hk)⟩
theorem Later.putObj {W : World} (x : Later W) {l : Nat} (hl : W.heap.size ≤ l) (o : Obj) : ∃ y : Later W, x.w.putObj l o = y.w := ⟨⟨_, below_putObj x.h hl o⟩, rfl⟩
theorem cell_putObj {w : World} {l b o : Nat} {v : Value} {ob ob' : Obj} (hl : w.heap[l]? = some ob) (ho : ob.isCells = false) (h : w.cell? ⟨b, o, none⟩ = some v) : (w.putObj l ob').cell? ⟨b, o, none⟩ = some v := by
  obtain ⟨oc, hoc, hc⟩ := cells_of_cell h
  have hne : b ≠ l := by
    rintro rfl
    have hoc' : w.heap[b]? = some oc := hoc
    rw [hl] at hoc'; cases hoc'; rw [ho] at hc; cases hc
  exact (World.cell?_of_block (World.putObj_heap_other hne)).trans h
theorem IsInts.putObj {w : World} {v : Value} {L : List Int} (h : IsInts w v L) {l : Nat} {ob : Obj} (ob' : Obj) (hl : w.heap[l]? = some ob) (ho : ob.isCells = false) : IsInts (w.putObj l ob') v L := by
  obtain ⟨a, c, hv, hle, h⟩ := h
  refine ⟨a, c, hv, hle, fun i hi => ?_⟩
  obtain ⟨b, o, ha, hb, hc⟩ := h i hi
  exact ⟨b, o, ha, by rw [World.putObj_size]; exact hb, cell_putObj hl ho hc⟩

/-- what a call of yield, at a list of numbers, comes to -/
def Yields (B l : Nat) (v : Value) (Rd J Jx : World → Prop) (A : World) : Prop :=
  YieldAt Fence.wide 0 Try.prog l #[v] A fun e A' => (e = .returned (.bool true) ∧ J A' ∧ Rd A' ∧ Above B A A') ∨ (e = .returned (.bool false) ∧ Jx A' ∧ Above B A A')

/-- AN ITERATOR OVER THE LISTS L: it reads what Rd says; its own memory lies from the call's world on; it hands over the lists in their order, until a round says no more -/
def IterL (f : Nat) (cap : Array Value) (Rd : World → Prop) (L : List (List Int)) (W : World) : Prop :=
  ∀ (l : Nat) (J : Nat → World → Prop) (Jx : World → Prop), (∀ k A B, J k A → Eqb W.heap.size A B → J k B) → (∀ A B, Jx A → Calm W.heap.size A B → Jx B) →
    (∀ k v A, k < L.length → J k A → Rd A → IsInts A v (nth L k) → Yields W.heap.size l v Rd (J (k + 1)) Jx A) → J 0 W →
    CallsIn Fence.wide 0 Try.prog f (#[.func (.yield l) #[] #[]] ++ cap) W fun e W' => (∃ v, e = .returned v) ∧ (J L.length W' ∨ Jx W')

/-- how a round's body may be left -/
def roundEnd (B : Nat) (J : World → Prop) (Ix : Code → World → Prop) (Rd : World → Prop) (A : World) : Exit → Act → World → Prop
  | .normal, _, A' => Above B A A' ∧ Rd A' ∧ J A'
  | .ret, _, A' => Above B A A' ∧ Ix .ret A'
  | .exit id, _, A' => Above B A A' ∧ Ix (.exit id) A'
  | .goto t, _, A' => Above B A A' ∧ Ix (.goto t) A'
  | .panic _, _, _ => False
  | .outgrown, _, _ => False

theorem wpIn_rangeL {g : Operand} {ps : Array Tmp} {assign body : Code} {Q : Exit → Act → World → Prop} {a : Act} {w : World} {gf : Nat} {cap : Array Value}
    (hg : a.eval g = .func (.func gf) #[] cap) (eg : ∀ args w, (callFunc gf args).run Try.prog w = .ok (.enter gf args) w) (hps : ps.size = 1) (Rd : World → Prop) (L : List (List Int))
    (hiter : ∀ W1, Below w.heap.size w W1 → Rd W1 → IterL gf cap Rd L W1)
    (I : Nat → World → Prop) (Ix : Code → World → Prop) (hI : ∀ k A B, I k A → Eqb w.heap.size A B → I k B) (hIx : ∀ c A B, Ix c A → Calm w.heap.size A B → Ix c B) (hRd : ∀ A B, Rd A → Eqb w.heap.size A B → Rd B)
    (h0 : I 0 w) (hR0 : Rd w) (a₁ : Value → Act)
    (hassign : ∀ (l : Nat) (v : Value) (W : World) (K : Act → World → Prop), K (a₁ v) W →
      assign.wpIn (Fence.wide.inRound l) 0 Try.prog (Exit.then K (fun _ _ _ => False)) { tmps := (ps.zip #[v]).foldl (fun t (p, v) => t.setIfInBounds p v) a.tmps, defers := [] } W)
    (hbody : ∀ (l k : Nat) (v : Value) (A : World), k < L.length → I k A → Rd A → IsInts A v (nth L k) → body.wpIn (Fence.wide.inRound l) 0 Try.prog (roundEnd w.heap.size (I (k + 1)) Ix Rd A) (a₁ v) A)
    (hdone : ∀ (D : Nat) (A : World), w.heap.size ≤ D → I L.length A → A.heap[D]? = some (.deferred (some [])) → Q .normal { a with defers := { target := .collected D, args := #[] } :: a.defers } A)
    (hstop : ∀ (D : Nat) (c : Code) (A : World), w.heap.size ≤ D → Ix c A → A.heap[D]? = some (.deferred (some [])) → c.wpIn Fence.wide 0 Try.prog Q { a with defers := { target := .collected D, args := #[] } :: a.defers } A) :
    (Code.rangeFunc g ps assign body).wpIn Fence.wide 0 Try.prog Q a w := by
  refine wpIn_rangeFunc ?_
  intro fn hfn
  rw [Fence.wide_round]
  obtain ⟨rec, hrec⟩ : ∃ rec : LoopState → Option Code → Loop, rec = fun st pe => { state := st, pending := pe, fn, tmps := a.tmps, params := ps, assign, body, defers := w.heap.size } := ⟨_, rfl⟩
  obtain ⟨W1, hW1⟩ : ∃ W1, (w.alloc (.deferred (some []))).alloc (.loop (rec .ready none)) = W1 := ⟨_, rfl⟩
  have hs1 : W1.heap.size = w.heap.size + 2 := by rw [← hW1]; simp
  have hL1 : W1.heap[w.heap.size + 1]? = some (.loop (rec .ready none)) := by
    rw [← hW1]; have := World.alloc_heap_new (w.alloc (.deferred (some []))) (.loop (rec .ready none)); rwa [World.size_alloc] at this
  have hK1 : W1.heap[w.heap.size]? = some (.deferred (some [])) := by
    rw [← hW1]; exact (Below.heap_alloc _ _ _ (by simp)).trans (World.alloc_heap_new w _)
  have hb1 : Below w.heap.size w W1 := by
    rw [← hW1]; exact ((Below.refl _ w).alloc (Nat.le_refl _) _).alloc (by simp) _
  refine ⟨w.heap.size + 1, [{ target := .collected w.heap.size, args := #[] }], W1, { target := .fn (.func gf) cap, args := #[.func (.yield (w.heap.size + 1)) #[] #[]] }, W1, gf,
    #[.func (.yield (w.heap.size + 1)) #[] #[]] ++ cap, W1, ?_, ?_, ?_, ?_, (fun h => by cases h), ?_⟩
  · rw [← hW1, hrec]; exact run_enterLoop_outer _ _ _ _ _
  · simp only [resolve, hg]
    simp [go_sem]
  · intro f' _; trivial
  · simp [invoke, go_sem, eg]
  · have he1 := Eqb.below hb1 (Nat.le_refl _)
    refine (hiter W1 hb1 (hRd _ _ hR0 he1) (w.heap.size + 1)
      (fun k W => I k W ∧ W.heap[w.heap.size + 1]? = some (.loop (rec .ready none)) ∧ W.heap[w.heap.size]? = some (.deferred (some [])))
      (fun W => ∃ c, Ix c W ∧ W.heap[w.heap.size + 1]? = some (.loop (rec .done (some c))) ∧ W.heap[w.heap.size]? = some (.deferred (some [])))
      (fun k A B hs hb => ⟨hI k A B hs.1 (hb.mono (by omega)), (hb.block _ (by omega)).trans hs.2.1, (hb.block _ (by omega)).trans hs.2.2⟩)
      (fun A B hs hb => by
        obtain ⟨c, hc, hl, hk⟩ := hs
        exact ⟨c, hIx c A B hc (hb.mono (by omega)), (hb.block _ (by omega)).trans hl, (hb.block _ (by omega)).trans hk⟩)
      ?_ ⟨hI _ _ _ h0 he1, hL1, hK1⟩).mono ?_
    · rintro k v W hlen ⟨hi, hl, hk⟩ hrd hv
      have hlt : w.heap.size + 1 < W.heap.size := (Array.getElem?_eq_some_iff.1 hl).1
      have hy := run_yield (P := Try.prog) (args := #[v]) hl (by rw [hrec]; exact hps.symm)
      rw [hrec] at hy
      refine ⟨fn, _, assign, body, hy, roundIn_of_wpIn trivial (hassign _ v W _ ⟨_, run_beginRound hl (by rw [hrec]), ?_⟩)⟩
      have hl2 : (W.putObj (w.heap.size + 1) (.loop { rec .ready none with state := .busy })).heap[w.heap.size + 1]? = some (.loop { rec .ready none with state := .busy }) := World.putObj_heap_same hlt
      have hk2 : (W.putObj (w.heap.size + 1) (.loop { rec .ready none with state := .busy })).heap[w.heap.size]? = some (.deferred (some [])) := (World.putObj_heap_other (by omega)).trans hk
      have hb2 : Eqb w.heap.size W (W.putObj (w.heap.size + 1) (.loop { rec .ready none with state := .busy })) := Eqb.putObj (by omega) (by omega) _
      have ha2 : Above W1.heap.size W (W.putObj (w.heap.size + 1) (.loop { rec .ready none with state := .busy })) := ⟨by rw [World.putObj_size]; exact Nat.le_refl _, fun k h1 _ => World.putObj_heap_other (by omega)⟩
      refine Go.wpIn_mono (hbody _ k v _ hlen (hI _ _ _ hi hb2) (hRd _ _ hrd hb2) (hv.putObj _ hl rfl)) ?_
      have fin : ∀ (jump : Option Code) (W3 : World), Above w.heap.size (W.putObj (w.heap.size + 1) (.loop { rec .ready none with state := .busy })) W3 →
          (Instr.endRound (w.heap.size + 1) jump).run Try.prog W3 = .ok (.bool jump.isNone) (W3.putObj (w.heap.size + 1) (.loop (rec (if jump.isNone then .ready else .done) jump))) ∧
          W3.heap[w.heap.size + 1]? = some (.loop { rec .ready none with state := .busy }) ∧ Eqb w.heap.size W3 (W3.putObj (w.heap.size + 1) (.loop (rec (if jump.isNone then .ready else .done) jump))) ∧
          (W3.putObj (w.heap.size + 1) (.loop (rec (if jump.isNone then .ready else .done) jump))).heap[w.heap.size + 1]? = some (.loop (rec (if jump.isNone then .ready else .done) jump)) ∧
          (W3.putObj (w.heap.size + 1) (.loop (rec (if jump.isNone then .ready else .done) jump))).heap[w.heap.size]? = some (.deferred (some [])) := fun jump W3 hk3 => by
        have hl3 := (hk3.block (w.heap.size + 1) (by omega) (by rw [World.putObj_size]; exact hlt)).trans hl2
        have := run_endRound (P := Try.prog) jump hl3
        rw [hrec] at this ⊢
        exact ⟨this, by rw [hrec] at hl3; exact hl3, Eqb.putObj (by have := (Array.getElem?_eq_some_iff.1 hl3).1; omega) (by omega) _, World.putObj_heap_same (Array.getElem?_eq_some_iff.1 hl3).1,
          (World.putObj_heap_other (by omega)).trans ((hk3.block w.heap.size (by omega) (by rw [World.putObj_size]; omega)).trans hk2)⟩
      have hab : ∀ (W3 : World) (o : Obj), Above w.heap.size (W.putObj (w.heap.size + 1) (.loop { rec .ready none with state := .busy })) W3 → Above W1.heap.size W (W3.putObj (w.heap.size + 1) o) := fun W3 o hk3 =>
        (ha2.trans (hk3.mono (by omega))).trans ⟨by rw [World.putObj_size]; exact Nat.le_refl _, fun k h1 _ => World.putObj_heap_other (by omega)⟩
      rintro e a3 W3 hp
      cases e with
      | normal =>
        obtain ⟨hk3, hrd3, hi3⟩ := hp
        obtain ⟨hr, _, hb3, hl4, hk4⟩ := fin none W3 hk3
        exact ⟨_, _, hr, .inl ⟨rfl, ⟨hI _ _ _ hi3 hb3, hl4, hk4⟩, hRd _ _ hrd3 hb3, hab _ _ hk3⟩⟩
      | ret =>
        obtain ⟨hk3, hi3⟩ := hp
        obtain ⟨hr, hl5, _, hl4, hk4⟩ := fin (some .ret) W3 hk3
        exact ⟨_, _, hr, .inr ⟨rfl, ⟨.ret, hIx _ _ _ hi3 (Calm.putObj hl5 rfl (by omega) _), hl4, hk4⟩, hab _ _ hk3⟩⟩
      | exit id =>
        obtain ⟨hk3, hi3⟩ := hp
        obtain ⟨hr, hl5, _, hl4, hk4⟩ := fin (some (.exit id)) W3 hk3
        exact ⟨_, _, hr, .inr ⟨rfl, ⟨.exit id, hIx _ _ _ hi3 (Calm.putObj hl5 rfl (by omega) _), hl4, hk4⟩, hab _ _ hk3⟩⟩
      | goto t =>
        obtain ⟨hk3, hi3⟩ := hp
        obtain ⟨hr, hl5, _, hl4, hk4⟩ := fin (some (.goto t)) W3 hk3
        exact ⟨_, _, hr, .inr ⟨rfl, ⟨.goto t, hIx _ _ _ hi3 (Calm.putObj hl5 rfl (by omega) _), hl4, hk4⟩, hab _ _ hk3⟩⟩
      | panic ch => exact hp.elim
      | outgrown => exact hp.elim
    · rintro e W2 ⟨⟨v, rfl⟩, (⟨hi, hl, hk⟩ | ⟨c, hi, hl, hk⟩)⟩
      · have hlt : w.heap.size + 1 < W2.heap.size := (Array.getElem?_eq_some_iff.1 hl).1
        exact ⟨none, _, by have := run_endLoop (P := Try.prog) hl (by rw [hrec]; simp); rw [hrec] at this; exact this, hdone _ _ (Nat.le_refl _) (hI _ _ _ hi (Eqb.putObj (by omega) (by omega) _)) ((World.putObj_heap_other (by omega)).trans hk)⟩
      · have hlt : w.heap.size + 1 < W2.heap.size := (Array.getElem?_eq_some_iff.1 hl).1
        exact ⟨some c, _, by have := run_endLoop (P := Try.prog) hl (by rw [hrec]; simp); rw [hrec] at this; exact this, hstop _ c _ (Nat.le_refl _) (hIx _ _ _ hi (Calm.putObj hl rfl (by omega) _)) ((World.putObj_heap_other (by omega)).trans hk)⟩

theorem round_in {l n : Nat} {f : FuncId} {tmps : Array Value} {assign body : Code} {w : World} {R : Ending → World → Prop} (l₀ : Nat) (h : RoundIn Fence.wide n Try.prog l f tmps assign body w R) : RoundIn (Fence.wide.inRound l₀) n Try.prog l f tmps assign body w R := h

/-- a function that holds one such loop, on its way out -/
theorem leaves_mark {fn : Func} {tmps : Array Value} {R : Ending → World → Prop} {D : Nat} {W : World} {v : Value} (hD : W.heap[D]? = some (.deferred (some [])))
    (hr : (results fn tmps).run Try.prog (W.putObj D (.deferred none)) = .ok v (W.putObj D (.deferred none))) (hR : R (.returned v) (W.putObj D (.deferred none))) :
    LeavesInM Fence.wide 0 Try.prog fn tmps R [{ target := .collected D, args := #[] }] .returning W :=
  ⟨by simp, .inl ⟨_, _, rfl, run_takeDeferred hD, ⟨_, hr, hR⟩⟩⟩

end Go.Proofs.Ytmpkbolabdmkkaa

/- THE ORDER OF FILLINGS is the order of their numbers; the next one that agrees. -/
namespace Go.Proofs.Ytmpkbolabdmkkaa

theorem rank_step_lt {p : Prob} {f g : List Int} {k : Nat} (hf : 0 ≤ nth f k ∧ nth f k < dim p k) (h : rankTo p f k < rankTo p g k) : rankTo p f (k + 1) < rankTo p g (k + 1) := by
  unfold rankTo
  have h1 : (nth f k).toNat < dim p k := by omega
  calc rankTo p f k * dim p k + (nth f k).toNat < rankTo p f k * dim p k + dim p k := by omega
    _ = (rankTo p f k + 1) * dim p k := by rw [Nat.add_mul, Nat.one_mul]
    _ ≤ rankTo p g k * dim p k := Nat.mul_le_mul_right _ h
    _ ≤ rankTo p g k * dim p k + (nth g k).toNat := Nat.le_add_right _ _
theorem rank_far_lt {p : Prob} {f g : List Int} {n i : Nat} (hf : ∀ j, j < n → 0 ≤ nth f j ∧ nth f j < dim p j) (h : rankTo p f i < rankTo p g i) : ∀ m, i + m ≤ n → rankTo p f (i + m) < rankTo p g (i + m)
  | 0, _ => h
  | m + 1, hm => rank_step_lt (hf (i + m) (by omega)) (rank_far_lt hf h m (by omega))
theorem lessTo_rank {p : Prob} {a b : List Int} {n : Nat} (ha : ∀ i, i < n → 0 ≤ nth a i ∧ nth a i < dim p i) (hb : ∀ i, i < n → 0 ≤ nth b i ∧ nth b i < dim p i) : ∀ m i, i + m = n → rankTo p a i = rankTo p b i → lessTo a b m i = decide (rankTo p a n < rankTo p b n)
  | 0, i, hi, h => by
    obtain rfl : i = n := by omega
    show false = _
    rw [h]; simp
  | m + 1, i, hi, h => by
    have h1 := ha i (by omega)
    have h2 := hb i (by omega)
    by_cases hc : nth a i = nth b i
    · rw [lessTo_no hc]
      exact lessTo_rank ha hb m (i + 1) (by omega) (by unfold rankTo; rw [h, hc])
    · rw [lessTo_yes hc]
      have e : n = i + 1 + m := by omega
      by_cases hlt : nth a i < nth b i
      · have h3 : rankTo p a (i + 1) < rankTo p b (i + 1) := by unfold rankTo; rw [h]; omega
        have h4 := rank_far_lt ha h3 m (by omega)
        rw [e]; simp [hlt, h4]
      · have h3 : rankTo p b (i + 1) < rankTo p a (i + 1) := by unfold rankTo; rw [h]; omega
        have h4 := rank_far_lt hb h3 m (by omega)
        rw [e]; simp [hlt]; omega
theorem lessB_fill {p : Prob} (hv : validP p = true) {r s : Nat} (hr : r < total p) (hs : s < total p) : lessB (fill p r) (fill p s) = decide (r < s) := by
  have hd : ∀ i, i < p.opts.length → 0 < dim p i := fun _ hi => (valid_dim hv hi).1
  unfold lessB fill
  rw [unr_len, lessTo_rank (p := p) (n := p.opts.length) (unr_ok p _ r hd).2 (unr_ok p _ s hd).2 _ 0 (by omega) rfl]
  rw [rank_unr p _ r hd hr, rank_unr p _ s hd hs]
theorem fillB_fill {p : Prob} (hv : validP p = true) {f : List Int} (hf : fillB p f = true) : ∃ r, r < total p ∧ f = fill p r := by
  obtain ⟨h1, h2⟩ := fillB_iff.1 hf
  rw [← valid_len hv] at h1
  have h3 : ∀ i, i < p.opts.length → 0 ≤ nth f i ∧ nth f i < dim p i := fun i hi => by
    have := wi_iff.1 (h2 i (by omega)); unfold dim; omega
  refine ⟨rankTo p f p.opts.length, rank_lt p _ h3, ?_⟩
  unfold fill
  rw [unr_rank p _ (by omega) h3, ← h1, List.take_length]

theorem find_filter {l : List (List Int)} {P Q : List Int → Bool} : (l.filter P).find? Q = l.find? (fun x => P x && Q x) := by
  rw [List.find?_filter]; congr 1; funext x; cases P x <;> simp
theorem next_find {p : Prob} (hv : validP p = true) {r k : Nat} (hr : r < total p) (hk : k < total p) (hrk : r < k) (ha : agreesB p (fill p k) = true) (hno : ∀ i, r < i → i < k → agreesB p (fill p i) = false) :
    (agr p).find? (lessB (fill p r)) = some (fill p k) := by
  unfold agr
  have e := nth_fills (p := p) hk
  rw [find_filter, find_at (k := k) (by rw [fills_len]; exact hk), e]
  · rw [e, ha, lessB_fill hv hr hk]; simp [hrk]
  · intro i hi
    rw [nth_fills (by omega), lessB_fill hv hr (by omega)]
    by_cases h : r < i
    · rw [hno i h hi]; rfl
    · simp [h]
theorem next_none {p : Prob} (hv : validP p = true) {r : Nat} (hr : r < total p) (hno : ∀ i, r < i → i < total p → agreesB p (fill p i) = false) : (agr p).find? (lessB (fill p r)) = none := by
  unfold agr
  rw [find_filter]
  refine find_none fun i hi => ?_
  rw [fills_len] at hi
  rw [nth_fills hi, lessB_fill hv hr hi]
  by_cases h : r < i
  · rw [hno i h hi]; rfl
  · simp [h]

/-- the k-th filling, where it agrees, is the next of those that agree -/
theorem agr_split (p : Prob) (k : Nat) : agr p = agrTo p k ++ ((fills p).drop k).filter (agreesB p) := by
  unfold agr agrTo; rw [← List.filter_append, List.take_append_drop]
theorem agr_at {p : Prob} {k : Nat} (hk : k < (fills p).length) (h : agreesB p (nth (fills p) k) = true) : (agrTo p k).length < (agr p).length ∧ nth (agr p) (agrTo p k).length = nth (fills p) k := by
  have e : ((fills p).drop k).filter (agreesB p) = nth (fills p) k :: ((fills p).drop (k + 1)).filter (agreesB p) := by
    rw [List.drop_eq_getElem_cons hk, List.filter_cons, ← nth_eq _ _ hk, if_pos h]
  rw [agr_split p k, e]
  refine ⟨by simp, ?_⟩
  rw [nth_eq _ _ (by simp)]; simp
theorem nth_drop {α : Type} [Inhabited α] (l : List α) (r k : Nat) : nth (l.drop r) k = nth l (r + k) := by
  unfold nth; rw [List.getD_eq_getElem?_getD, List.getD_eq_getElem?_getD, List.getElem?_drop]

/-- what is asked of a problem of which all fillings are gone through -/
def askE (p : Prob) (right : Bool) : Int := if validP p = false then 70 else if right = false then 1 else if 65536 < total p then 2 else 0
theorem askE_true (p : Prob) : askE p true = largeE p := by
  unfold askE largeE; cases validP p <;> simp
theorem askE_0 {p : Prob} {b : Bool} : askE p b = 0 ↔ validP p = true ∧ b = true ∧ total p ≤ 65536 := by
  unfold askE; cases validP p <;> cases b <;> simp
end Go.Proofs.Ytmpkbolabdmkkaa

/- A REGION THAT DRAWS ITS ORDER, IN A ROUND OF A RANGE OVER A FUNCTION: one walk of the lexical order serves every order (the kit's law, carried over to the fenced walk). -/
namespace Go.Proofs.Ytmpkbolabdmkkaa
open Go.RowKit

def noDefer (o : Oper) : Bool := match o.op with | .defer _ => false | _ => true
theorem noDefer_ne {o : Oper} (h : noDefer o = true) : ∀ c, o.op ≠ .defer c := fun c e => by unfold noDefer at h; rw [e] at h; cases h

theorem wpIn_of_quiet {P : Program} {C : World → Prop} {l : Nat} {o : Oper} {a : Act} {K : Act → Prop} {K' : Act → World → Prop} {Q' : Exit → Act → World → Prop} {w : World} (hd : noDefer o = true) (hw : C w) (h : ∀ a w', C w' → K a → K' a w') (hh : o.quiet P a C K) :
    o.wpIn (Fence.wide.inRound l) 0 P a w K' Q' := by
  obtain ⟨v, h1, h2⟩ := hh
  have h3 := h1 w hw
  unfold Oper.quietAt at h3
  unfold Oper.wpIn
  rw [Oper.semAt_plain _ _ _ (noDefer_ne hd)]
  refine ⟨fun _ _ => trivial, ?_⟩
  generalize (execOp a.eval o).run P w = r at *
  cases r with
  | ok n w' =>
    cases n <;> simp only [Oper.quietUpon] at h3 <;> simp only [Oper.uponIn]
    case value u =>
      obtain ⟨e1, e2⟩ := h3
      rw [e1, e2]
      exact h _ _ hw h2
    case skip =>
      obtain ⟨e1, e2⟩ := h3
      rw [e1, ← e2]
      exact h _ _ hw h2
    case enter f args =>
      obtain ⟨e1, hc⟩ := h3
      rw [e1]
      refine ⟨(fun h => by cases h), CallsIn.inRound l (callsIn_wide.2 (hc.mono ?_))⟩
      rintro e w'' ⟨he, hw''⟩
      subst he
      exact h _ _ hw'' h2
  | halt x w' => simp only [Oper.quietUpon] at h3

theorem wpOpIn_of_qOp {P : Program} {ops : Array Oper} {C : World → Prop} {l : Nat} (hd : ∀ (i : Nat) (o : Oper), ops[i]? = some o → noDefer o = true) {i : Nat} {a : Act} {K : Act → Prop} {K' : Act → World → Prop} {Q' : Exit → Act → World → Prop} {w : World} (hC : C w)
    (h : ∀ a w', C w' → K a → K' a w') (hh : qOp P ops C i K a) : wpOpIn (Fence.wide.inRound l) 0 P ops Q' i K' a w := by
  unfold qOp at hh
  unfold wpOpIn
  split
  · rename_i ho; simp only [ho] at hh; exact h _ _ hC hh
  · rename_i o ho
    simp only [ho] at hh
    split
    · rename_i hw; simp only [hw, if_true] at hh; exact wpIn_of_quiet (hd _ _ ho) hC h hh
    · rename_i hw; simp only [hw] at hh; exact ⟨fun _ _ => trivial, h _ _ hC hh⟩

theorem wpAnyIn_of_quiet {P : Program} {ops : Array Oper} {md : Region.Mode} {C : World → Prop} {l : Nat} (hd : ∀ (i : Nat) (o : Oper), ops[i]? = some o → noDefer o = true) {Q : Act → Prop} {Q' : Exit → Act → World → Prop} (hQ : ∀ a w, C w → Q a → Q' .normal a w) :
    ∀ (fuel : Nat) (listed : Array Bool) (a : Act) (w : World), C w → wpAnyQ P md ops C Q fuel listed a → wpAnyIn (Fence.wide.inRound l) 0 P md ops Q' fuel listed a w
  | 0, _, _, _, hw, h => ⟨h.1, hQ _ _ hw h.2⟩
  | fuel + 1, _, _, _, hw, h => ⟨fun h0 => hQ _ _ hw (h.1 h0), fun i hi => wpOpIn_of_qOp hd hw (fun a' w' hw' => wpAnyIn_of_quiet hd hQ fuel _ a' w' hw') (h.2 i hi)⟩

/-- the region, in a round -/
theorem wpIn_region_later {P : Program} {l₀ id : Nat} {Q : Exit → Act → World → Prop} {a : Act} {W : World} {l : List Oper} (x : Later W) (hm : P.follows .mixedOrders = true) (hB : Region.lexB .any l.toArray = true) (hd : l.all noDefer = true)
    (h : wpQuiet P l.toArray (fun w' => ∃ y : Later W, w' = y.w) (fun a' => ∀ w', (∃ y : Later W, w' = y.w) → Q .normal a' w') l a) : (Code.region id l.toArray true).wpIn (Fence.wide.inRound l₀) 0 P Q a x.w := by
  simp only [Region.lexB, Bool.and_eq_true] at hB
  have hd' : ∀ (i : Nat) (o : Oper), l.toArray[i]? = some o → noDefer o = true := fun i o hi => List.all_eq_true.1 hd o (List.mem_of_getElem? (i := i) (by rw [← List.getElem?_toArray]; exact hi))
  refine wpIn_region_any hm (wpAnyIn_of_quiet (C := fun w' => ∃ y : Later W, w' = y.w) (Q := fun a' => ∀ w', (∃ y : Later W, w' = y.w) → Q .normal a' w') hd' (fun _ w' hw' h => h w' hw') _ _ _ _ (x.drew 1) ?_)
  have := wpAnyQ_lex (C := fun w' => ∃ y : Later W, w' = y.w) (md := .any) hB.1 l 0 (Array.replicate l.toArray.size false) a (by simp) (by simpa using hB.2) (by simpa using h)
  simpa using this
end Go.Proofs.Ytmpkbolabdmkkaa
