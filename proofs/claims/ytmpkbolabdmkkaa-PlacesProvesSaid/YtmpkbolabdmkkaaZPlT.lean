/- CONTRACT of places' least. -/
import Derived.Test.YtmpkbolabdmkkaaZj
import Derived.Test.YtmpkbolabdmkkaaZl
namespace Go.Proofs.Ytmpkbolabdmkkaa
open Go.RowKit

theorem IsInts.setBox {A : World} {v : Value} {L : List Int} {b : Nat} {u : Value} (h : IsInts A v L) (hc : A.cell? ⟨b, 0, none⟩ = some u) (hu : ∀ n : Int, u ≠ .int .i64 n) (u' : Value) : IsInts (A.setCell ⟨b, 0, none⟩ u') v L := by
  obtain ⟨a, c, hv, hle, h⟩ := h
  refine ⟨a, c, hv, hle, fun i hi => ?_⟩
  obtain ⟨b', o, ha, hb, hcell⟩ := h i hi
  refine ⟨b', o, ha, by simpa [World.setCell] using hb, (World.cell?_setCell_other _ _ _ _ fun e => ?_).trans hcell⟩
  rw [← e, hc] at hcell
  exact hu _ (Option.some.inj hcell)

theorem owns_raise {w : World} {B B' : Nat} {e : TypeId} {sz n : Nat} {v : Value} {xs : List Value} (h : w.ownsRow B e sz v n xs) (hk : ∀ k, v.ownBlock = some k → B' ≤ k) : w.ownsRow B' e sz v n xs := by
  refine ⟨h.1, ?_⟩
  rcases h.2 with h0 | ⟨g, cap, cur, rfl, _, h3⟩
  · exact .inl h0
  · exact .inr ⟨g, cap, cur, rfl, hk g rfl, h3⟩

theorem IsRules.opened_at {W : World} {a : Option Addr} {n c : Nat} {l : List Rl} (h : IsRules W (.slice a n c) l) {i : Nat} (hi : i < l.length) : ∃ b o, a = some ⟨b, o, none⟩ ∧ (∀ x : Later W, b < x.w.heap.size) ∧ ∃ u2 u3 u6,
    (∀ x : Later W, x.w.cell? ⟨b, o + i * 7, none⟩ = some (.int .i64 (nth l i).item)) ∧ (∀ x : Later W, x.w.cell? ⟨b, o + i * 7 + 1, none⟩ = some (.int .i64 (nth l i).kind)) ∧
    (∀ x : Later W, x.w.cell? ⟨b, o + i * 7 + 2, none⟩ = some u2) ∧ (∀ x : Later W, x.w.cell? ⟨b, o + i * 7 + 3, none⟩ = some u3) ∧
    (∀ x : Later W, x.w.cell? ⟨b, o + i * 7 + 4, none⟩ = some (.int .i64 (nth l i).lo)) ∧ (∀ x : Later W, x.w.cell? ⟨b, o + i * 7 + 5, none⟩ = some (.int .i64 (nth l i).hi)) ∧
    (∀ x : Later W, x.w.cell? ⟨b, o + i * 7 + 6, none⟩ = some u6) ∧ IsRl W u2 u3 u6 (nth l i) := by
  obtain ⟨a', c', hv, _, h'⟩ := h.opened
  cases hv
  exact h'.out i hi

/-- 'make([]bool, n)', run -/
theorem makeBools_run (n : Nat) (hn : n ≤ 65536) : ∃ cs : Array Value, (∀ w : World, (Instr.makeSlice 52 (.int .i64 n) (.int .i64 n)).run Try.prog w = .ok (.slice (some ⟨w.heap.size, 0, none⟩) n n) (w.alloc (.cells cs 4))) ∧
    ∀ w : World, (w.alloc (.cells cs 4)).ownsRow w.heap.size 4 1 (.slice (some ⟨w.heap.size, 0, none⟩) n n) n ((List.replicate n false).map Value.bool) := by
  obtain ⟨i0, hi, hz0, hz1, hz2⟩ := info_parts Try.info4
  refine ⟨madeCells (Value.bool false).cells n, fun w => ?_, fun w => ?_⟩
  · have := run_make (P := Try.prog) w 52 4 i0 _ Try.underlying52 hi hz0 .i64 .i64 n n (by omega) (by omega) (by rw [hz2]; omega) (by omega)
    simpa [hz1] using this
  · have := World.ownsRow_lit (base := w.heap.size) (e := 4) (size := 1) w (madeCells (Value.bool false).cells n) n (Nat.le_refl _) (by unfold maxLen; omega) (by simp [size_madeCells])
    rw [show (madeCells (Value.bool false).cells n).toList = (List.replicate n false).map Value.bool by rw [List.map_replicate]; exact toList_madeCells_one _ _] at this
    exact this

/-- the row of kept sets, the block ahead of its box -/
structure KeptAt (W3 : World) (N : Nat) (kb : List Bool) (A : World) : Prop where
  later : ∃ z : Later W3, A = z.w
  size : W3.heap.size + 1 < A.heap.size
  cell : A.cell? ⟨W3.heap.size + 1, 0, none⟩ = some (.slice (some ⟨W3.heap.size, 0, none⟩) N N)
  own : A.ownsRow W3.heap.size 4 1 (.slice (some ⟨W3.heap.size, 0, none⟩) N N) N (kb.map Value.bool)
theorem KeptAt.up {W3 : World} {N : Nat} {kb : List Bool} {A : World} (h : KeptAt W3 N kb A) (y : Later A) : KeptAt W3 N kb y.w :=
  ⟨by obtain ⟨z, rfl⟩ := h.later; exact ⟨z.up y, rfl⟩, Nat.lt_of_lt_of_le h.size y.h.size, (y.h.cell (p := ⟨W3.heap.size + 1, 0, none⟩) h.size).trans h.cell, owns_later h.own y.h⟩
theorem KeptAt.eqb {W3 : World} {N B : Nat} {kb : List Bool} {A C : World} (h : KeptAt W3 N kb A) (he : Eqb B A C) (hB : W3.heap.size + 2 ≤ B) : KeptAt W3 N kb C := by
  refine ⟨he.later (by omega) h.later, Nat.lt_of_lt_of_le (show W3.heap.size + 1 < B by omega) he.size, (he.cell (p := ⟨W3.heap.size + 1, 0, none⟩) (by show W3.heap.size + 1 < B; omega)).trans h.cell, h.own.1, ?_⟩
  rcases h.own.2 with ⟨h0, _⟩ | ⟨g, cap, cur, h1, h2, h3, h4⟩
  · cases h0
  · cases h1
    exact .inr ⟨_, _, cur, rfl, h2, (he.block _ (by omega)).trans h3, h4⟩
theorem KeptAt.at_ {W3 : World} {N : Nat} {kb : List Bool} {A : World} (h : KeptAt W3 N kb A) {i : Nat} (hi : i < N) :
    A.cell? ⟨W3.heap.size, i, none⟩ = some (.bool (nth kb i)) ∧ A.frozen? ⟨W3.heap.size, i, none⟩ = false ∧ KeptAt W3 N (kb.set i true) (A.setCell ⟨W3.heap.size, i, none⟩ (.bool true)) := by
  obtain ⟨z, rfl⟩ := h.later
  obtain ⟨d0, d1, d2, d3⟩ := owns_at z h.own i hi
  have hl : kb.length = N := by have := h.own.1; simpa using this
  obtain ⟨z2, hz2, hown, _⟩ := d3 (.bool true)
  refine ⟨by rw [d0, nth_eq _ _ (by omega)]; simp [hl, hi], d1, ?_⟩
  rw [hz2]
  refine ⟨⟨z2, rfl⟩, ?_, ?_, by rw [List.map_set]; exact hown⟩
  · rw [← hz2]; simpa [World.setCell] using h.size
  · rw [← hz2]; exact (World.cell?_setCell_other _ _ _ _ (by simp)).trans h.cell

theorem KeptAt.drew {W3 : World} {N : Nat} {kb : List Bool} {A : World} (h : KeptAt W3 N kb A) : KeptAt W3 N kb A.drew := h.up ⟨A.drew, Below.drew (Below.refl _ _)⟩
theorem kPart_same {k m : Nat} {g : Nat → Bool} (hm : m < 65536) (h : (m.testBit k && g m) = false) : kPart k g (m + 1) = kPart k g m := by
  rw [kPart_succ k m g hm]; funext s; rw [h]; simp
theorem kPart_more {k m : Nat} {g : Nat → Bool} (hm : m < 65536) (h : (m.testBit k && g m) = true) : kPart k g (m + 1) = fun s => kPart k g m s || s == m - 2 ^ k := by
  rw [kPart_succ k m g hm]; funext s; rw [h]; simp

theorem cnt_full (n : Nat) : cnt n (2 ^ n - 1) = n := by
  have h : ∀ m, m ≤ n → cnt m (2 ^ n - 1) = m := fun m => by
    induction m with
    | zero => intro _; rfl
    | succ m ih => intro hm; rw [cnt_succ, ih (by omega), Nat.testBit_two_pow_sub_one]; simp; omega
  exact h n (Nat.le_refl _)

theorem bestTo_succ (its : List Int) (K : Nat → Bool) (s : Nat) : bestTo its K (s + 1) = if K s = false ∧ (cnt its.length s < cnt its.length (bestTo its K s) ∨ (cnt its.length s = cnt its.length (bestTo its K s) ∧ lessB (listed its s) (listed its (bestTo its K s)) = true)) then s else bestTo its K s := rfl

/-- HOW least ENDS: a list of items and true, or nothing and false -/
def EndsLeast (W : World) (r : Option (List Int)) (e : Ending) (w' : World) : Prop :=
  match r with
  | some l => ∃ v, e = .returned (.tuple #[v, .bool true]) ∧ ∃ y : Later W, w' = y.w ∧ IsInts y.w v l
  | none => Ends W (.tuple #[.slice none 0 0, .bool false]) e w'

set_option maxRecDepth 100000 in
set_option maxHeartbeats 4000000 in
theorem pleast {W : World} (x : Later W) (v0 v1 v2 : Value) (p : Prob) (g : Nat) (cap : Array Value) (of : List Int → Bool) (hp : IsProb W v0 v1 v2 p) (hv : validP p = true) (eg : ∀ args w, (callFunc g args).run Try.prog w = .ok (.enter g args) w)
    (hof : ∀ {W' : World} (y : Later W'), Below W.heap.size W W' → ∀ (v : Value) (k : Nat), k < total p → IsInts W' v (fill p k) → Calls Try.prog g (#[v] ++ cap) y.w (Ends W' (.bool (of (fill p k))))) :
    Calls Try.prog 80 #[.agg #[v0, v1, v2], .func (.func g) #[] cap] x.w (EndsLeast W (leastO p of)) := by
  refine (callsIn_wide (n := 0)).1 (callsIn_of_wp_marks (F := Fence.wide) (n := 0) Try.func80 rfl trivial ?_ rfl)
  refine (wpIn_wide (n := 0)).2 ?_
  simp only [Try.ntmps80, List.size_toArray, List.length_cons, List.length_nil, Nat.reduceAdd, Nat.reduceSub, Array.replicate_succ, Array.replicate_zero, List.push_toArray, List.append_toArray, List.nil_append, List.cons_append]
  go_upto_region 2 with (fail)
  obtain ⟨W0, x0, e1, hb0, ⟨s1, s2⟩, ⟨p0, p1, p2⟩, q0⟩ := enter31 x v0 v1 v2 (.func (.func g) #[] cap) 26 89
  have hs0 : x0.w.heap.size = x.w.heap.size + 1 + 1 := by rw [← e1]; simp
  rw [e1]; clear e1
  obtain ⟨W1, hW1⟩ : ∃ W1, x0.w = W1 := ⟨_, rfl⟩
  have hb01 : Below W0.heap.size W0 W1 := hW1 ▸ x0.h
  have hb1 : Below W.heap.size W W1 := hb0.trans (hb01.mono hb0.size)
  replace s1 := Later.sizes hb01 s1
  replace s2 := Later.sizes hb01 s2
  replace p0 := Later.cells hb01 p0
  replace p1 := Later.cells hb01 p1
  replace p2 := Later.cells hb01 p2
  replace q0 := Later.cells hb01 q0
  rw [hW1] at hs0 ⊢
  clear hW1 hb01 hb0
  obtain ⟨b6, hb6⟩ : ∃ b6, x.w.heap.size + 1 + 1 = b6 := ⟨_, rfl⟩
  rw [hb6] at hs0 ⊢
  have hW6 : W1.heap.size ≤ b6 := by omega
  have hB0 : Boxed (W1.alloc (.cells #[.slice none 0 0] 22)) b6 22 (.slice none 0 0) := hs0 ▸ Boxed.new W1 22 _
  obtain ⟨x2, hx2⟩ := (Later.now W1).alloc (.cells #[.slice none 0 0] 22)
  change W1.alloc _ = _ at hx2
  rw [hx2] at hB0 ⊢
  clear hx2
  replace hs0 := Lib.hid hs0
  replace hb6 := Lib.hid hb6
  have HP := Lib.hid (hp.below hb1)
  obtain ⟨ap, cp, rfl, lp, _⟩ := hp.panes.opened
  obtain ⟨ao, co, rfl, lo, _⟩ := hp.opts.opened
  obtain ⟨ar, cr, rfl, lr, hr⟩ := HP.out.rules.opened
  have hR256 := valid_rules hv
  clear hp
  go_wp2
  go_loopw [25] (fun i wr => ∃ k : Nat, k ≤ p.rules.length ∧ i = .int .i64 k ∧ ∃ y : Later W1, wr = y.w ∧ ∃ out, Boxed y.w b6 22 out ∧ y.w.ownsRow W1.heap.size 3 1 out k (((p.rules.take k).map Rl.item).map (Value.int .i64))) (fun i _ => p.rules.length - (intOf i).toNat)
  case atStart => exact ⟨0, Nat.zero_le _, rfl, x2, rfl, _, hB0, World.ownsRow_nil _ _ _ _⟩
  case round =>
    clear hB0 x2
    obtain ⟨k, hk, rfl, x, rfl, out, hB, hown⟩ := hrel
    by_cases hlt : k < p.rules.length
    · obtain ⟨bk, ok, rfl, hbk, u2, u3, u6, c0, c1, c2, c3, c4, c5, c6, hR⟩ := hr.out k hlt
      obtain ⟨aq, cq, rfl, _, _⟩ := hR.panes.opened
      obtain ⟨ah, ch, rfl, _, _⟩ := hR.hits.opened
      obtain ⟨ak, ck, rfl, _, _⟩ := hR.ok.opened
      clear hR
      go_upto_region 5 with (fail)
      obtain ⟨A0, c00, rfl⟩ := owns_slice hown
      obtain ⟨o0, ho0⟩ : ∃ o, o = Obj.cells #[.int .i64 (nth p.rules k).item, .int .i64 (nth p.rules k).kind, .slice aq (nth p.rules k).panes.length cq, .slice ah (nth p.rules k).hits.length ch, .int .i64 (nth p.rules k).lo, .int .i64 (nth p.rules k).hi, .slice ak (nth p.rules k).ok.length ck] 87 := ⟨_, rfl⟩
      have hBy := hB.alloc o0
      have hoy := hown.alloc o0
      have cr0 : (x.w.alloc o0).cell? ⟨x.w.heap.size, 0, none⟩ = some (.int .i64 (nth p.rules k).item) := by rw [ho0]; simp
      rw [← ho0]
      obtain ⟨y, hy⟩ := x.alloc o0
      rw [hy] at hBy hoy cr0 ⊢
      clear hy ho0 hB hown c0 c1 c2 c3 c4 c5 c6
      have cB := hBy.cell
      have fB := hBy.frozen
      go_wp2_with ((at_builtin; refine wpList_app1 y 22 3 _ 8 Try.info3 rfl Try.underlying22 rfl _ _ rfl _ _ _ (by rfl) hoy _ (by rfl) (by rfl) (by omega) (by omega) ?_; intro v' x hown' hgr); (obtain ⟨A1, c1, rfl⟩ := owns_slice hown'; have hB1 : Boxed x.w b6 22 _ := (hBy.alloc _).kept hgr (hBy.not_row (by decide) hoy); have cB1 := hB1.cell; have fB1 := hB1.frozen))
      have hB2 := hB1.set (.slice A1 (k + 1) c1)
      have hown2 := hown'.kept (grownBy_setCell' x.w b6 (.slice A1 (k + 1) c1)) (.inr (hB1.not_row (by decide) hown').symm)
      obtain ⟨z, hz⟩ := x.set hW6 (.slice A1 (k + 1) c1)
      rw [hz] at hB2 hown2 ⊢
      have hst : ((p.rules.take (k + 1)).map Rl.item) = (p.rules.take k).map Rl.item ++ [(nth p.rules k).item] := by rw [take_snoc_nth _ k hlt, List.map_append]; rfl
      go_roundw
      case rel => exact ⟨k + 1, by omega, by go_num, z, rfl, _, hB2, by rw [hst, List.map_append]; exact hown2⟩
      case measure => simp [intOf]; omega
    · obtain rfl : k = p.rules.length := by omega
      rw [List.take_length] at hown
      obtain ⟨L, hL⟩ : ∃ L, L = p.rules.map Rl.item := ⟨_, rfl⟩
      have hml : p.rules.length = L.length := by rw [hL]; simp
      rw [← hL, hml] at hown
      have hitems : Hid (compL L = items p) := Lib.hid (by unfold items; rw [items_comp _ _ (Nat.le_refl _), List.take_length, hL])
      have hL256 : L.length ≤ 256 := by omega
      replace hml := Lib.hid hml
      replace hL := Lib.hid hL
      have hlt6 := hB.lt
      obtain ⟨Wc, xc, hxc, hsz, heq⟩ := cut_at x.w (B := b6 + 1) hlt6
      have hownc : xc.w.ownsRow Wc.heap.size 3 1 out L.length (L.map (Value.int .i64)) := by
        rw [hxc, hsz]
        refine owns_raise hown fun k hk => ?_
        have h1 := (hown.lt k hk).1
        have h2 := (hB.not_row (by decide) hown)
        have h3 : k ≠ b6 := fun e => h2 (by rw [hk, e])
        have := hs0.out
        omega
      have hCc := Lib.hid (pcompact xc out L hownc (by omega))
      have cB := hB.cell
      have fB := hB.frozen
      obtain ⟨z0, hz0⟩ := (heq (Later.now Wc)).later (by omega) ⟨x, rfl⟩
      have hcB : Wc.cell? ⟨b6, 0, none⟩ = some out := ((heq (Later.now Wc)).cell (p := ⟨b6, 0, none⟩) (Nat.lt_succ_self b6)).trans cB
      have hfB : Wc.frozen? ⟨b6, 0, none⟩ = false := ((heq (Later.now Wc)).frozen (p := ⟨b6, 0, none⟩) (Nat.lt_succ_self b6)).trans fB
      replace hcB := Later.cell (by omega) hcB
      replace hfB := Later.frozen (by omega) hfB
      have hbc : Below W1.heap.size W1 Wc := by have h := z0.h; rw [← hz0] at h; exact h
      obtain ⟨A0, c00, rfl⟩ := owns_slice hown
      rw [← hxc] at cB fB ⊢
      clear hownc hxc hz0 z0 heq hown hB hlt6 x
      go_upto_region 7 with (fail)
      go_upto_region 8 with (go_at_call 99; refine hCc.out.mono ?_; rintro e w' ⟨v, rfl, y, rfl, hI⟩; have cBy := hcB y; have fBy := hfB y; have hIo := hI; obtain ⟨A1, c1, rfl, hIl, hIr⟩ := hI)
      rw [hitems.out] at hIo hIl ⊢
      have hI3 := hIo.setBox cBy (by simp) (.slice A1 (items p).length c1)
      have hc3 := World.cell?_setCell_same _ _ (.slice A1 (items p).length c1) cBy
      have hb3 : Below W1.heap.size W1 (y.w.setCell ⟨b6, 0, none⟩ (.slice A1 (items p).length c1)) := Below.setCell (below_then hbc y) (p := ⟨b6, 0, none⟩) hW6 _
      have hs3 : b6 < (y.w.setCell ⟨b6, 0, none⟩ (.slice A1 (items p).length c1)).heap.size := by have := y.h.size; simp [World.setCell]; omega
      obtain ⟨W3, hW3⟩ : ∃ W3, y.w.setCell ⟨b6, 0, none⟩ (.slice A1 (items p).length c1) = W3 := ⟨_, rfl⟩
      rw [hW3] at hI3 hc3 hb3 hs3 ⊢
      clear hW3 hIo hIr cBy fBy y hcB hfB hCc hbc hitems hL hml hL256 cB fB hsz xc
      have h16 : (items p).length ≤ 16 := (validP_iff.1 hv).2.2.2
      obtain ⟨N, hN⟩ : ∃ N, N = 2 ^ (items p).length := ⟨_, rfl⟩
      have hpow : (2 : Int) ^ (items p).length = (N : Int) := by rw [hN]; simp
      have hN1 : 1 ≤ N := hN ▸ Nat.two_pow_pos _
      have hN2 : N ≤ 65536 := hN ▸ Nat.pow_le_pow_right (show 0 < 2 by decide) h16
      replace hN := Lib.hid hN
      have c6 := Later.cell hs3 hc3
      obtain ⟨cs, hmk, hzk⟩ := makeBools_run N hN2
      go_upto_region 9 with (fail)
      have hk0 : KeptAt W3 N (List.replicate N false) ((W3.alloc (.cells cs 4)).alloc (.cells #[.slice (some ⟨W3.heap.size, 0, none⟩) N N] 52)) :=
        ⟨⟨⟨_, ((Below.refl _ W3).alloc (Nat.le_refl _) _).alloc (by simp) _⟩, rfl⟩, by simp, World.cell?_alloc_at _ 52 _ 0 (by simp), (hzk W3).alloc _⟩
      obtain ⟨W4, hW4⟩ : ∃ W4, (W3.alloc (.cells cs 4)).alloc (.cells #[.slice (some ⟨W3.heap.size, 0, none⟩) N N] 52) = W4 := ⟨_, rfl⟩
      rw [hW4] at hk0 ⊢
      clear hW4 hzk hmk cs
      have hb34 : Below W3.heap.size W3 W4 := by obtain ⟨z, hz⟩ := hk0.later; have h := z.h; rw [← hz] at h; exact h
      have hb4 : Below W1.heap.size W1 W4 := hb3.trans (hb34.mono hb3.size)
      have P0 := Later.cells hb3 p0
      have P1 := Later.cells hb3 p1
      have P2 := Later.cells hb3 p2
      replace q0 := Later.cells hb3 q0
      replace s1 := Later.sizes hb4 s1
      replace p0 := Later.cells hb4 p0
      replace p1 := Later.cells hb4 p1
      replace p2 := Later.cells hb4 p2
      have h64 := valid_pane64 hv
      obtain ⟨ci, hmk, hzi⟩ := makeInts_run p.panes.length (by omega)
      have keep : ∀ w' : World, Below W4.heap.size W4 w' → Below W4.heap.size W4 w' ∧ w'.cell? ⟨x.w.heap.size, 0, none⟩ = some (.slice ap p.panes.length cp) ∧ w'.cell? ⟨x.w.heap.size, 1, none⟩ = some (.slice ao p.opts.length co) ∧ w'.cell? ⟨x.w.heap.size, 2, none⟩ = some (.slice ar p.rules.length cr) := fun w' h => ⟨h, p0 ⟨w', h⟩, p1 ⟨w', h⟩, p2 ⟨w', h⟩⟩
      have hz1 : IsInts (W4.alloc (.cells ci 3)).drew (.slice (some ⟨W4.heap.size, 0, none⟩) p.panes.length p.panes.length) (List.replicate p.panes.length 0) := (hzi W4).below (Below.drew (Below.refl _ _))
      have hbz : Below W4.heap.size W4 (W4.alloc (.cells ci 3)).drew := Below.drew (Below.alloc (Below.refl _ _) (Nat.le_refl _) _)
      go_region_held3 (fun w' => Below W4.heap.size W4 w' ∧ w'.cell? ⟨x.w.heap.size, 0, none⟩ = some (.slice ap p.panes.length cp) ∧ w'.cell? ⟨x.w.heap.size, 1, none⟩ = some (.slice ao p.opts.length co) ∧ w'.cell? ⟨x.w.heap.size, 2, none⟩ = some (.slice ar p.rules.length cr)) ((refine keep _ ?_; first | exact Below.refl _ _ | exact hbz | exact below_then hbz _ | exact Below.drew (Below.refl _ _) | exact Below.alloc (Below.refl _ _) (Nat.le_refl _) _))
        (first | (go_at_call 110; refine (pfillings (Later.now (W4.alloc (.cells ci 3)).drew) _ _ _ _ (List.replicate p.panes.length 0) hz1).mono ?_; rintro e w' ⟨bq, bf, rfl, y, rfl, hq1, hq2, hq3, hq4, hq5⟩))
      rename_i hH
      have hs34 : W3.heap.size + 2 ≤ W4.heap.size := hk0.size
      have hs4 : W4.heap.size ≤ (W4.alloc (.cells ci 3)).drew.heap.size := hbz.size
      have hkw := hk0.up ⟨y.w, hH.1⟩
      change KeptAt W3 N (List.replicate N false) y.w at hkw
      have hlen := Lib.hid (valid_len hv)
      have hI0 : IsInts y.w (.slice (some ⟨W4.heap.size, 0, none⟩) p.panes.length p.panes.length) (fill p 0) := by rw [fill_0, hlen.out]; exact hz1.below y.h
      have hRq : RdP W3 bq (.slice ap p.panes.length cp) (.slice ao p.opts.length co) (.slice ar p.rules.length cr) y.w := ⟨hkw.later, hq3.lt, hq3.c0, hq3.c1, hq3.c2⟩
      have hbqs := hq3.lt
      have hbq4 : W4.heap.size ≤ bq := by omega
      have hw4 : W4.heap.size ≤ y.w.heap.size := hH.1.size
      obtain ⟨w, hw⟩ : ∃ w, y.w = w := ⟨_, rfl⟩
      rw [hw] at hkw hI0 hRq hbqs hq4 hq5 hw4 ⊢
      clear hw hH hq3 hq1 hq2 hz1 hbz keep hzi hmk y hs4
      go_wp2
      have hnN : ∀ f : List Int, vm p f < N := fun f => by rw [hN.out]; exact vm_lt p f
      refine (wpIn_wide (n := 0)).1 ?_
      refine' wpIn_rangeL (gf := 146) rfl (enters_of Try.func146 (by kernel_rfl) rfl) rfl (RdP W3 bq (.slice ap p.panes.length cp) (.slice ao p.opts.length co) (.slice ar p.rules.length cr)) (fills p) ?iter
        (fun k A => KeptAt W3 N (rowK (items p).length (k0To p of k)) A)
        (fun _ _ => False) ?hI ?hIx ?hRd (by rw [show k0To p of 0 = fun _ => false from funext fun s => by simp [k0To], rowK_false, ← hN.out]; exact hkw) hRq _ ?assign ?body ?done ?stop
      case assign =>
        intro l v W K hK
        have hS := @Oper.semAt_some
        gi_wp2
        exact hK
      case iter =>
        intro W2 hb2 hr2
        have := iterFills bq bf _ _ _ _ p 0 (HP.out.below hb3) hv (total_pos hv) hr2 (hI0.below hb2) (Nat.lt_of_lt_of_le hq4 hb2.size) ((hb2.cell (p := ⟨bf, 0, none⟩) hq4).trans hq5)
        rwa [List.drop_zero] at this
      case hI => exact fun k A B h he => h.eqb he (by omega)
      case hIx => exact fun c A B h he => h
      case hRd => exact fun A B h he => h.eqb he (by omega) hbqs
      case stop => exact fun D c A hD h hdf => h.elim
      case done =>
        rintro D A hD hKA hdf
        rw [fills_len] at hKA
        have hDW : W3.heap.size < D := by omega
        replace hdf := Lib.hid hdf
        have c6A : A.cell? ⟨b6, 0, none⟩ = some (.slice A1 (items p).length c1) := by obtain ⟨z, rfl⟩ := hKA.later; exact c6 z
        go_wp2
        go_loopw [86] (fun i wr => ∃ k : Nat, k ≤ (items p).length ∧ i = .int .i64 k ∧ KeptAt W3 N (rowK (items p).length (kUp (k0To p of (total p)) k)) wr ∧ wr.heap[D]? = some (.deferred (some []))) (fun i _ => (items p).length - (intOf i).toNat)
        case atStart => exact ⟨0, Nat.zero_le _, rfl, hKA, hdf.out⟩
        case round =>
          clear c6A hKA hdf A
          obtain ⟨k, hk, rfl, hKA, hdf⟩ := hrel
          by_cases hlt : k < (items p).length
          · obtain ⟨gg, hgg⟩ : ∃ gg, gg = kUp (k0To p of (total p)) k := ⟨_, rfl⟩
            rw [← hgg] at hKA
            have cc := hKA.cell
            replace hdf := Lib.hid hdf
            go_wp2
            go_loopw [91] (fun i wr => ∃ m : Nat, m ≤ N ∧ i = .int .i64 m ∧ KeptAt W3 N (rowK (items p).length (kPart k gg m)) wr ∧ wr.heap[D]? = some (.deferred (some []))) (fun i _ => N - (intOf i).toNat)
            case atStart => exact ⟨0, Nat.zero_le _, rfl, by rw [kPart_0]; exact hKA, hdf.out⟩
            case round =>
              clear hKA hdf cc
              obtain ⟨m, hm, rfl, hKA, hdf⟩ := hrel
              replace hdf := Lib.hid hdf
              by_cases hltm : m < N
              · have hm6 : m < 65536 := by omega
                obtain ⟨e1, e2, _⟩ := hKA.at_ hltm
                have e3 := hKA.cell
                rw [nth_rowK _ (by rw [← hN.out]; exact hltm)] at e1
                cases hT : m.testBit k
                · have hbit := bit_0 hm6 hT
                  have hsm := Lib.hid (kPart_same (k := k) (g := gg) hm6 (by rw [hT]; rfl))
                  go_wp2
                  go_roundw
                  case rel => exact ⟨m + 1, by omega, by go_num, by rw [hsm.out]; exact hKA, hdf.out⟩
                  case measure => simp [intOf]; omega
                · have hbit := bit_1 hm6 hT
                  rw [kPart_at gg hT] at e1
                  cases hG : gg m
                  · have hsm := Lib.hid (kPart_same (k := k) (g := gg) hm6 (by rw [hT, hG]; rfl))
                    rw [hG] at e1
                    go_wp2
                    go_roundw
                    case rel => exact ⟨m + 1, by omega, by go_num, by rw [hsm.out]; exact hKA, hdf.out⟩
                    case measure => simp [intOf]; omega
                  · have hmo := Lib.hid (kPart_more (k := k) (g := gg) hm6 (by rw [hT, hG]; rfl))
                    rw [hG] at e1
                    obtain ⟨hbn, hle⟩ := bit_not hm6 hT
                    obtain ⟨M, hM⟩ : ∃ M, M = 2 ^ k := ⟨_, rfl⟩
                    have hpk : (2 : Int) ^ k = (M : Int) := by rw [hM]; simp
                    rw [← hM] at hbn hle
                    rw [hpk] at hbit
                    have hmin : min k 64 = k := by omega
                    have hMb : M < 65536 := by omega
                    have hwr : IntKind.i64.wrap (M : Int) = (M : Int) := by rw [IntKind.wrap_i64]; omega
                    have hnot : bits .andNot .i64 (m : Int) (M : Int) = ((m - M : Nat) : Int) := by rw [i64_andNot_nat m M (by omega) (by omega), hbn]
                    obtain ⟨i, hi⟩ : ∃ i, i = m - M := ⟨_, rfl⟩
                    rw [← hi] at hnot
                    have hiN : i < N := by omega
                    have hi1 : (0 : Int) ≤ (i : Int) := by omega
                    have hi2 : (i : Int) < (N : Int) := by omega
                    obtain ⟨f1, f2, f3⟩ := hKA.drew.at_ hiN
                    replace hi := Lib.hid hi
                    replace hM := Lib.hid hM
                    replace f3 := Lib.hid f3
                    clear hbn
                    go_wp2
                    go_region_held3 (fun w' => w'.cell? ⟨W3.heap.size + 1, 0, none⟩ = some (.slice (some ⟨W3.heap.size, 0, none⟩) N N)) (first | exact e3 | exact hKA.drew.cell | exact f3.out.cell) (fail)
                    go_wp2
                    go_roundw
                    case rel =>
                      refine ⟨m + 1, by omega, by go_num, ?_, (Below.heap_setCell _ ⟨W3.heap.size, i, none⟩ _ D (by show D ≠ W3.heap.size; omega)).trans hdf.out⟩
                      have e : rowK (items p).length (kPart k gg (m + 1)) = (rowK (items p).length (kPart k gg m)).set i true := by
                        rw [hmo.out, rowK_set _ (by rw [← hN.out]; exact hiN), hi.out, hM.out]
                      rw [e]; exact f3.out
                    case measure => simp [intOf]; omega
              · obtain rfl : m = N := by omega
                have hal := Lib.hid (kPart_all h16 hlt gg)
                go_wp2
                go_roundw
                case rel =>
                  refine ⟨k + 1, by omega, by go_num, ?_, hdf.out⟩
                  have e : rowK (items p).length (kUp (k0To p of (total p)) (k + 1)) = rowK (items p).length (kPart k gg m) := rowK_congr fun s hs => by
                    rw [hN.out, hal.out s hs]; show kStep k (kUp _ k) s = _; rw [hgg]
                  rw [e]; exact hKA
                case measure => simp [intOf]; omega
          · obtain rfl : k = (items p).length := by omega
            have hl1 : N - 1 < N := by omega
            have hKK : kUp (k0To p of (total p)) (items p).length = keptK p of := rfl
            rw [hKK] at hKA
            obtain ⟨e1, _, _⟩ := hKA.at_ hl1
            rw [nth_rowK _ (by rw [← hN.out]; exact hl1)] at e1
            have e3 := hKA.cell
            have ez : ((N : Int) - 1) = ((N - 1 : Nat) : Int) := by omega
            have hLO : Hid (leastO p of = if keptK p of (N - 1) = true then none else some (listed (items p) (bestTo (items p) (keptK p of) N))) := Lib.hid (by rw [hN.out]; rfl)
            have hDs := (Array.getElem?_eq_some_iff.1 hdf).1
            replace hdf := Lib.hid hdf
            cases hF1 : keptK p of (N - 1)
            · rw [hF1] at e1
              have hb3w : Below W3.heap.size W3 wr := by obtain ⟨z, rfl⟩ := hKA.later; exact z.h
              have c6w := Later.cells hb3w c6
              have c9w := Later.cell hKA.size e3
              have hIw := Lib.hid (hI3.below hb3w)
              have hLs := Lib.hid (fun (B : World) (hb : Below wr.heap.size wr B) (s : Nat) (hs : s < 65536) => plisted (Later.now B) _ (items p) s b6 hs (hIw.out.below hb) h16 (Later.cells hb c6w))
              have hones := Lib.hid (fun (s : Nat) (hs : s < N) => ones_cnt h16 (show s < 2 ^ (items p).length by rw [← hN.out]; exact hs))
              have hbl := Lib.hid (fun m (hm : m ≤ N) => show bestTo (items p) (keptK p of) m < N by rw [hN.out] at hm ⊢; exact bestTo_lt _ _ m hm)
              have hb0 : bestTo (items p) (keptK p of) 0 = N - 1 := by rw [hN.out]; rfl
              have hc0 : cnt (items p).length (N - 1) = (items p).length := by rw [hN.out]; exact cnt_full _
              replace hKA := Lib.hid hKA
              clear c6
              go_wp2
              show Code.wp _ _ _ _ (Later.now wr).w
              generalize Later.now wr = xw
              refine wp_region_later xw (by kernel_rfl) (by kernel_rfl) ?_
              repeat (go_big_quiet_step (fail))
              refine wpQuiet_nil ?_
              rintro _ ⟨xw, rfl⟩
              go_wp2
              go_loopw [17, 18, 127] (fun bv sv i w' => ∃ m : Nat, m ≤ N ∧ i = .int .i64 m ∧ bv = .int .i64 (bestTo (items p) (keptK p of) m) ∧ sv = .int .i64 (cnt (items p).length (bestTo (items p) (keptK p of) m)) ∧ ∃ y : Later wr, w' = y.w) (fun _ _ i _ => N - (intOf i).toNat)
              case atStart => exact ⟨0, Nat.zero_le _, rfl, by rw [hb0], by rw [hb0, hc0], xw, rfl⟩
              case round =>
                clear xw
                rename_i wr2
                obtain ⟨m, hm, rfl, rfl, rfl, y, rfl⟩ := hrel
                by_cases hltm : m < N
                · have hm6 : m < 65536 := by omega
                  obtain ⟨e1, _, _⟩ := (hKA.out.up y).at_ hltm
                  rw [nth_rowK _ (by rw [← hN.out]; exact hltm)] at e1
                  have hon := hones.out m hltm
                  have hst := bestTo_succ (items p) (keptK p of) m
                  have hbN := hbl.out m hm
                  obtain ⟨b, hb⟩ : ∃ b, bestTo (items p) (keptK p of) m = b := ⟨_, rfl⟩
                  rw [hb] at hst hbN ⊢
                  clear hb
                  have hlm := listed_len (items p) m
                  have hlb := listed_len (items p) b
                  have hcm := cnt_le (items p).length m
                  have hcb := cnt_le (items p).length b
                  obtain ⟨ca, hca⟩ : ∃ ca, cnt (items p).length m = ca := ⟨_, rfl⟩
                  obtain ⟨cb, hcb2⟩ : ∃ cb, cnt (items p).length b = cb := ⟨_, rfl⟩
                  rw [hca] at hon hst hlm hcm
                  rw [hcb2] at hst hlb hcb ⊢
                  replace hst := Lib.hid hst
                  replace hlm := Lib.hid hlm
                  replace hlb := Lib.hid hlb
                  replace hca := Lib.hid hca
                  replace hcb2 := Lib.hid hcb2
                  cases hKm : keptK p of m
                  · rw [hKm] at e1
                    by_cases hlt1 : ca < cb
                    · go_wp2_with (go_at_call 129; refine (pones m hm6 _).mono ?_; rintro e w' ⟨rfl, rfl⟩)
                      go_roundw
                      case rel =>
                        have hb' : bestTo (items p) (keptK p of) (m + 1) = m := by rw [hst.out, if_pos ⟨hKm, .inl hlt1⟩]
                        exact ⟨m + 1, by omega, by go_num, by rw [hb'], by rw [hb', hca.out], y, rfl⟩
                      case measure => simp [intOf]; omega
                    · by_cases heq : ca = cb
                      · have hLs2 := Lib.hid (fun (B : World) (hb : Below wr.heap.size wr B) => hLs.out B hb b (by omega))
                        have hcp := Lib.hid (fun (B : World) (v v' : Value) (h1 : IsInts B v (listed (items p) m)) (h2 : IsInts B v' (listed (items p) b)) => pcompareL (Later.now B) v v' _ _ h1 h2 (by rw [hlm.out, hlb.out, heq]))
                        subst heq
                        cases hL : lessB (listed (items p) m) (listed (items p) b)
                        · go_wp2_with (first | (go_at_call 129; refine (pones m hm6 _).mono ?_; rintro e w' ⟨rfl, rfl⟩) | (go_at_call 128; have hz1 := z1.h; refine (hLs2.out _ (y.h.trans (z1.h.mono y.h.size))).mono ?_; rintro e w' ⟨v2, rfl, z2, rfl, hw2⟩; have i2 := Lib.hid (isInts_of_owns hw2 (by rw [hlb.out]; omega)); obtain ⟨A3, c3, rfl⟩ := owns_slice hw2; clear hw2 hz1) | (go_at_call 128; refine (hLs.out _ y.h m hm6).mono ?_; rintro e w' ⟨v1, rfl, z1, rfl, hw1⟩; have i1 := Lib.hid (isInts_of_owns hw1 (by rw [hlm.out]; omega)); obtain ⟨A2, c2, rfl⟩ := owns_slice hw1; clear hw1) | (go_at_call 130; refine (hcp.out _ _ _ (i1.out.below z2.h) i2.out).mono ?_; rintro e w' ⟨j, rfl, hj, z3, rfl⟩; rw [hL] at hj))
                          have hz13 : Below wr.heap.size wr z3.w := below_then (below_then (below_then y.h z1) z2) z3
                          go_roundw
                          case rel =>
                            have hb' : bestTo (items p) (keptK p of) (m + 1) = b := by rw [hst.out, if_neg (by rw [hL]; simp)]
                            exact ⟨m + 1, by omega, by go_num, by rw [hb'], by rw [hb', hcb2.out], ⟨z3.w, hz13⟩, rfl⟩
                          case measure => simp [intOf]; omega
                        · go_wp2_with (first | (go_at_call 129; refine (pones m hm6 _).mono ?_; rintro e w' ⟨rfl, rfl⟩) | (go_at_call 128; have hz1 := z1.h; refine (hLs2.out _ (y.h.trans (z1.h.mono y.h.size))).mono ?_; rintro e w' ⟨v2, rfl, z2, rfl, hw2⟩; have i2 := Lib.hid (isInts_of_owns hw2 (by rw [hlb.out]; omega)); obtain ⟨A3, c3, rfl⟩ := owns_slice hw2; clear hw2 hz1) | (go_at_call 128; refine (hLs.out _ y.h m hm6).mono ?_; rintro e w' ⟨v1, rfl, z1, rfl, hw1⟩; have i1 := Lib.hid (isInts_of_owns hw1 (by rw [hlm.out]; omega)); obtain ⟨A2, c2, rfl⟩ := owns_slice hw1; clear hw1) | (go_at_call 130; refine (hcp.out _ _ _ (i1.out.below z2.h) i2.out).mono ?_; rintro e w' ⟨j, rfl, hj, z3, rfl⟩; rw [hL] at hj))
                          have hz13 : Below wr.heap.size wr z3.w := below_then (below_then (below_then y.h z1) z2) z3
                          go_roundw
                          case rel =>
                            have hb' : bestTo (items p) (keptK p of) (m + 1) = m := by rw [hst.out, if_pos ⟨hKm, .inr ⟨by simp, hL⟩⟩]
                            exact ⟨m + 1, by omega, by go_num, by rw [hb'], by rw [hb', hca.out], ⟨z3.w, hz13⟩, rfl⟩
                          case measure => simp [intOf]; omega
                      · have heq' : ((ca : Int) == (cb : Int)) = false := by simp; omega
                        go_wp2_with (go_at_call 129; refine (pones m hm6 _).mono ?_; rintro e w' ⟨rfl, rfl⟩)
                        go_roundw
                        case rel =>
                          have hb' : bestTo (items p) (keptK p of) (m + 1) = b := by rw [hst.out, if_neg (by rintro ⟨_, h | h⟩ <;> omega)]
                          exact ⟨m + 1, by omega, by go_num, by rw [hb'], by rw [hb', hcb2.out], y, rfl⟩
                        case measure => simp [intOf]; omega
                  · rw [hKm] at e1
                    go_wp2_with (go_at_call 129; refine (pones m hm6 _).mono ?_; rintro e w' ⟨rfl, rfl⟩)
                    go_roundw
                    case rel =>
                      have hb' : bestTo (items p) (keptK p of) (m + 1) = b := by rw [hst.out, if_neg (by rintro ⟨h, _⟩; rw [hKm] at h; cases h)]
                      exact ⟨m + 1, by omega, by go_num, by rw [hb'], by rw [hb', hcb2.out], y, rfl⟩
                    case measure => simp [intOf]; omega
                · obtain rfl : m = N := by omega
                  have hbN := hbl.out m hm
                  obtain ⟨b, hb⟩ : ∃ b, bestTo (items p) (keptK p of) m = b := ⟨_, rfl⟩
                  rw [hb] at hbN ⊢
                  have hlb := listed_len (items p) b
                  have hcb := cnt_le (items p).length b
                  replace hb := Lib.hid hb
                  replace hlb := Lib.hid hlb
                  go_wp2_with (go_at_call 128; refine (hLs.out _ y.h b (by omega)).mono ?_; rintro e w' ⟨v1, rfl, z1, rfl, hw1⟩; have i1 := Lib.hid (isInts_of_owns hw1 (by rw [hlb.out]; omega)); obtain ⟨A2, c2, rfl⟩ := owns_slice hw1; clear hw1)
                  have hz := below_then y.h z1
                  have hdz := (hz.block D hDs).trans hdf.out
                  have hcm : Calm W1.heap.size z1.w (z1.w.putObj D (.deferred none)) := Calm.putObj hdz rfl (by omega) _
                  refine leaves_mark hdz (results_tmp2 rfl _ _ _) ?_
                  rw [hLO.out, if_neg (by simp [hF1]), hb.out]
                  have h7 := i1.out.calm hcm
                  obtain ⟨z2, hz2⟩ := hcm.toEqb.later (Nat.le_refl _) ⟨⟨z1.w, (hb3.trans (hb3w.mono hb3.size)).trans (hz.mono (Nat.le_trans hb3.size hb3w.size))⟩, rfl⟩
                  obtain ⟨z4, hz4⟩ := z2.down hb1
                  rw [hz2, hz4] at h7 ⊢
                  exact ⟨_, rfl, z4, rfl, h7⟩
            · rw [hF1] at e1
              go_wp2
              refine leaves_mark hdf.out (results_tmp2 rfl _ _ _) ?_
              rw [hLO.out, if_pos hF1]
              obtain ⟨z, hz⟩ := hKA.later
              obtain ⟨z1, hz1⟩ := z.putObj (l := D) (by omega) (.deferred none)
              rw [hz, hz1]
              exact ⟨rfl, z1.down (hb1.trans (hb3.mono hb1.size))⟩
      case body =>
        rintro l2 k v A hk hKA hRA hvA
        generalize hQ : roundEnd w.heap.size _ _ _ A = Q
        replace hQ := Lib.hid hQ
        rw [fills_len] at hk
        rw [nth_fills hk] at hvA
        have hb3A : Below W3.heap.size W3 A := by obtain ⟨z, rfl⟩ := hKA.later; exact z.h
        have hb1A := hb3.trans (hb3A.mono hb3.size)
        have hbWA := hb1.trans (hb1A.mono hb1.size)
        replace P0 := Later.cells hb3A P0
        replace P1 := Later.cells hb3A P1
        replace P2 := Later.cells hb3A P2
        replace q0 := Later.cells hb3A q0
        replace c6 := Later.cells hb3A c6
        have HPA := Lib.hid (HP.out.below hb1A)
        have HIA := Lib.hid (hI3.below hb3A)
        have HvA := Lib.hid hvA
        have hflen : Hid ((fill p k).length = p.opts.length) := Lib.hid (fill_len p k)
        have hfok := Lib.hid (fill_ok hv k)
        have hSo := Lib.hid (fun y : Later A => psound y _ _ _ _ p (fill p k) HPA.out hvA hflen.out hfok.out)
        have hOf := Lib.hid (fun y : Later A => hof y hbWA v k hk hvA)
        obtain ⟨av, cv, rfl, _, _⟩ := hvA.opened
        clear hvA
        have hS := @Oper.semAt_some
        have hF : ∀ f, Fence.wide.fn f = True := fun _ => rfl
        have hD : Fence.wide.depth = none := rfl
        show Code.wpIn _ _ _ _ _ _ (Later.now A).w
        cases hA1 : soundB p (fill p k)
        · have hU : useB p of (fill p k) = false := by simp [useB, hA1]
          replace hU := Lib.hid hU
          gi_wp2_with (first | (gi_at_call 91; refine (CallsIn.inRound l2 (callsIn_wide.2 (hSo.out _))).mono ?_; rintro e w' ⟨rfl, y, rfl⟩))
          all_goals
            rw [← hQ.out]
            exact ⟨Above.below y.h, hRA.up y, by rw [k0To_no hk hU.out]; exact hKA.up y⟩
        · cases hA2 : of (fill p k)
          · have hU : Hid (useB p of (fill p k) = false) := Lib.hid (by simp [useB, hA2])
            gi_wp2_with (first | (gi_at_call 91; refine (CallsIn.inRound l2 (callsIn_wide.2 (hSo.out _))).mono ?_; rintro e w' ⟨rfl, y, rfl⟩) | (refine (CallsIn.inRound l2 (callsIn_wide.2 (hOf.out _))).mono ?_; rintro e w' ⟨rfl, y2, rfl⟩))
            all_goals
              rw [← hQ.out]
              exact ⟨Above.below y2.h, hRA.up y2, by rw [k0To_no hk hU.out]; exact hKA.up y2⟩
          · have hU : Hid (useB p of (fill p k) = true) := Lib.hid (by simp [useB, hA1, hA2])
            gi_wp2_with (first | (gi_at_call 91; refine (CallsIn.inRound l2 (callsIn_wide.2 (hSo.out _))).mono ?_; rintro e w' ⟨rfl, y, rfl⟩) | (refine (CallsIn.inRound l2 (callsIn_wide.2 (hOf.out _))).mono ?_; rintro e w' ⟨rfl, y2, rfl⟩))
            gi_loopw [11, 61] (fun v i wr => ∃ j : Nat, j ≤ p.rules.length ∧ i = .int .i64 j ∧ v = .int .i64 (vmTo p (fill p k) j) ∧ ∃ y : Later A, wr = y.w) (fun _ i _ => p.rules.length - (intOf i).toNat)
            case atStart => exact ⟨0, Nat.zero_le _, rfl, rfl, y2, rfl⟩
            case round =>
              clear y y2
              obtain ⟨j, hj, rfl, rfl, y, rfl⟩ := hrel
              by_cases hlt : j < p.rules.length
              · obtain ⟨bk, ok, hab, hbk, u2, u3, u6, d0, d1, d2, d3, d4, d5, d6, hRl⟩ := HPA.out.rules.opened_at hlt
                cases hab
                have hRLo := Lib.hid hRl
                obtain ⟨aq, cq, rfl, _, _⟩ := hRl.panes.opened
                obtain ⟨ah, ch, rfl, _, _⟩ := hRl.hits.opened
                obtain ⟨ak, ck, rfl, _, _⟩ := hRl.ok.opened
                clear hRl
                have hfit := fits_of hv (fill_B hv k) hlt
                have hKp := Lib.hid (fun (B : World) (hb : Below A.heap.size A B) => pkeeps (Later.now B) _ _ _ _ p (nth p.rules j) (fill p k) (hRLo.out.below hb) (HvA.out.below hb) hfit)
                have hidx := idxL_rule p hlt
                have hil := idx_lt p hlt
                have hvs := vmTo_lt p (fill p k) j (by omega)
                rw [← hN.out] at hvs
                obtain ⟨M0, hM0⟩ : ∃ M0, M0 = (items p).idxOf (nth p.rules j).item := ⟨_, rfl⟩
                rw [← hM0] at hidx hil
                obtain ⟨M1, hM1⟩ : ∃ M1, M1 = 2 ^ M0 := ⟨_, rfl⟩
                have hp2 : (2 : Int) ^ M0 = (M1 : Int) := by rw [hM1]; simp
                have hM1b : M1 ≤ 65536 := hM1 ▸ Nat.pow_le_pow_right (show 0 < 2 by decide) (show M0 ≤ 16 by omega)
                have hor := i64_or_nat (vmTo p (fill p k) j) M1 (by omega) (by omega)
                have hnx : Hid (vmTo p (fill p k) (j + 1) = if keepsB (nth p.rules j) (fill p k) = true then vmTo p (fill p k) j else vmTo p (fill p k) j ||| M1) := Lib.hid (by rw [hM1, hM0]; rfl)
                replace hM0 := Lib.hid hM0
                replace hM1 := Lib.hid hM1
                cases hK1 : keepsB (nth p.rules j) (fill p k)
                · gi_wp2_with (first | (gi_at_call 97; refine (CallsIn.inRound l2 (callsIn_wide.2 (hKp.out _ (y.h.alloc y.h.size _)))).mono ?_; rintro e w' ⟨rfl, y1, rfl⟩; have cr1 := Later.cell (b := y.w.heap.size) (o := 0) (v := .int .i64 (nth p.rules j).item) (by simp) (by simp) y1; obtain ⟨q, hq⟩ : ∃ q : Later A, y1.w = q.w := ⟨⟨y1.w, (y.h.alloc y.h.size _).trans (y1.h.mono (y.h.alloc y.h.size _).size)⟩, rfl⟩; rw [hq] at cr1 ⊢; clear hq y1) | (gi_at_call 126; refine (CallsIn.inRound l2 (callsIn_wide.2 (pindexI q _ (items p) (nth p.rules j).item HIA.out))).mono ?_; rintro e w' ⟨rfl, q2, rfl⟩))
                  go_roundw
                  case rel => exact ⟨j + 1, by omega, by go_num, by rw [hnx.out, if_neg (by simp [hK1])], q2, rfl⟩
                  case measure => simp [intOf]; omega
                · gi_wp2_with (first | (gi_at_call 97; refine (CallsIn.inRound l2 (callsIn_wide.2 (hKp.out _ (y.h.alloc y.h.size _)))).mono ?_; rintro e w' ⟨rfl, y1, rfl⟩; have cr1 := Later.cell (b := y.w.heap.size) (o := 0) (v := .int .i64 (nth p.rules j).item) (by simp) (by simp) y1; obtain ⟨q, hq⟩ : ∃ q : Later A, y1.w = q.w := ⟨⟨y1.w, (y.h.alloc y.h.size _).trans (y1.h.mono (y.h.alloc y.h.size _).size)⟩, rfl⟩; rw [hq] at cr1 ⊢; clear hq y1))
                  go_roundw
                  case rel => exact ⟨j + 1, by omega, by go_num, by rw [hnx.out, if_pos hK1], q, rfl⟩
                  case measure => simp [intOf]; omega
              · obtain rfl : j = p.rules.length := by omega
                have hvN := hnN (fill p k)
                have hvm : vmTo p (fill p k) p.rules.length = vm p (fill p k) := rfl
                rw [hvm]
                obtain ⟨i, hi⟩ : ∃ i, i = N - 1 - vm p (fill p k) := ⟨_, rfl⟩
                have hiN : i < N := by omega
                have hnot : bits .andNot .i64 ((N : Int) - 1) (vm p (fill p k) : Int) = (i : Int) := by
                  have h1 := i64_andNot_nat (N - 1) (vm p (fill p k)) (by omega) (by omega)
                  rw [show ((N - 1 : Nat) : Int) = (N : Int) - 1 by omega] at h1
                  rw [h1, hi]
                  have h2 := full_not h16 (vm_lt p (fill p k))
                  rw [← hN.out] at h2
                  rw [h2]
                have hKy := hKA.up y
                obtain ⟨e1, e2, hK3⟩ := hKy.at_ hiN
                have e3 := hKy.cell
                have hset : Hid (rowK (items p).length (k0To p of (k + 1)) = (rowK (items p).length (k0To p of k)).set i true) := Lib.hid (by rw [k0To_yes hk hU.out, rowK_set _ (by rw [← hN.out]; exact hiN), hi, hN.out])
                replace hi := Lib.hid hi
                replace hK3 := Lib.hid hK3
                gi_wp2
                rw [← hQ.out]
                exact ⟨(Above.below y.h).setCell (p := ⟨W3.heap.size, i, none⟩) (by show W3.heap.size < _; omega) _, (hRA.up y).setCell (Nat.le_refl _) (by omega) _, by rw [hset.out]; exact hK3.out⟩
end Go.Proofs.Ytmpkbolabdmkkaa
