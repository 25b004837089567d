/- CONTRACTS of the reference's after, all, large. -/
import Derived.Test.YtmpkbolabdmkkaaBas2
import Derived.Test.YtmpkbolabdmkkaaRefG
namespace Go.Proofs.Ytmpkbolabdmkkaa
open Go.RowKit

theorem set_at {α : Type} (A B : List α) (x y : α) {k : Nat} (hk : k = A.length) : (A ++ [x] ++ B).set k y = A ++ [y] ++ B := by subst hk; simp
theorem map_parts (f : List Int) (k : Nat) (hk : k < f.length) (B : List Int) : (f.take (k + 1) ++ B).map (Value.int .i64) = (f.take k).map (Value.int .i64) ++ [.int .i64 (nth f k)] ++ B.map (Value.int .i64) := by
  rw [take_snoc_nth f k hk, List.map_append, List.map_append]; rfl
theorem set_zero (f : List Int) (k : Nat) (hk : k < f.length) : (((f.take (k + 1) ++ List.replicate (f.length - (k + 1)) 0).map (Value.int .i64)).set k (.int .i64 0)) = (f.take k ++ List.replicate (f.length - k) 0).map (Value.int .i64) := by
  rw [map_parts f k hk, set_at _ _ _ _ (by rw [List.length_map, List.length_take]; omega), show f.length - k = (f.length - (k + 1)) + 1 by omega, List.replicate_succ, List.map_append, List.map_cons, List.append_assoc]; rfl
theorem set_next (f : List Int) (k : Nat) (hk : k < f.length) : (((f.take (k + 1) ++ List.replicate (f.length - (k + 1)) 0).map (Value.int .i64)).set k (.int .i64 (nth f k + 1))) = (f.take k ++ [nth f k + 1] ++ List.replicate (f.length - (k + 1)) 0).map (Value.int .i64) := by
  rw [map_parts f k hk, set_at _ _ _ _ (by rw [List.length_map, List.length_take]; omega), List.map_append, List.map_append]; rfl

/-- HOW after ENDS: the next filling in memory of its own, or nothing -/
def EndsNext (W : World) (r : Option (List Int)) (e : Ending) (w' : World) : Prop :=
  match r with
  | some l => ∃ v, e = .returned (.tuple #[v, .bool true]) ∧ ∃ y : Later W, w' = y.w ∧ y.w.ownsRow W.heap.size 3 1 v l.length (l.map (Value.int .i64))
  | none => Ends W (.tuple #[.slice none 0 0, .bool false]) e w'

set_option maxRecDepth 100000 in
set_option maxHeartbeats 1000000 in
theorem rafter {W : World} (x : Later W) (v0 v1 v2 vf : Value) (p : Prob) (f : List Int) (hp : IsProb W v0 v1 v2 p) (hf : IsInts W vf f) (hlen : f.length = p.opts.length) (hfill : ∀ i, i < f.length → 0 ≤ nth f i ∧ nth f i < (nth p.opts i).length) :
    Calls Try.prog 156 #[.agg #[v0, v1, v2], vf] x.w (EndsNext W (nextF p f)) := by
  replace hlen := Lib.hid hlen
  replace hfill := Lib.hid hfill
  go_enter Try.func156, Try.ntmps156
  go_upto_region 1 with (fail)
  obtain ⟨W1, x1, e1, hb1, s1, p0, p1, p2⟩ := enter3 x v0 v1 v2 26
  rw [e1]; clear e1
  obtain ⟨ao, co, rfl, lo, hopts⟩ := (hp.opts.below hb1).opened
  have HF := Lib.hid (hf.below hb1)
  obtain ⟨af, cf, rfl, lf, hfs⟩ := HF.out.opened
  clear hp hf
  obtain ⟨z, hz, hown⟩ := owns_empty x1 3 1
  go_wp2_with (at_builtin; refine wpList_appN z 22 3 _ 1 8 Try.info3 rfl (by decide) Try.underlying22 rfl _ _ rfl _ _ _ (by rfl) hown af f.length cf (f.map (Value.int .i64)) (by rfl) (by simp) (ints_cells hfs.out z) (ints_one f) (by omega) (by omega) ?_; intro v' x hown' _; obtain ⟨A', c', rfl⟩ := owns_slice hown')
  clear hz hown
  simp only [Nat.zero_add, List.nil_append] at hown' ⊢
  have hcur : ∀ j, j ≤ f.length → (f.take j ++ List.replicate (f.length - j) 0).length = f.length := fun j hj => by simp; omega
  have hlast := Lib.hid (@nextF_last' p f)
  have hstop := Lib.hid (fun j => @nextF_stop' p f j)
  replace hcur := Lib.hid hcur
  go_loopw [7] (fun i wr => ∃ j : Nat, j ≤ f.length ∧ i = .int .i64 ((j : Int) - 1) ∧ (∃ y : Later W1, wr = y.w ∧ y.w.ownsRow W1.heap.size 3 1 (.slice A' f.length c') f.length ((f.take j ++ List.replicate (f.length - j) 0).map (Value.int .i64))) ∧ (∀ i, j ≤ i → i < f.length → (dim p i : Int) ≤ nth f i + 1)) (fun i _ => (intOf i + 1).toNat)
  case atStart => exact ⟨f.length, Nat.le_refl _, rfl, ⟨x, rfl, by simpa using hown'⟩, by omega⟩
  case round =>
    clear hown'
    obtain ⟨j, hj, rfl, ⟨x, rfl, hown⟩, hno⟩ := hrel
    replace hno := Lib.hid hno
    rcases Nat.eq_zero_or_pos j with rfl | hpos
    · go_wp2
      go_ret2
      have hr := hlast.out (fun i hi => hno.out i (Nat.zero_le _) hi)
      rw [hr]
      exact ⟨rfl, x.down hb1⟩
    · obtain ⟨k, rfl⟩ : ∃ k, j = k + 1 := ⟨j - 1, by omega⟩
      have hk : k < f.length := by omega
      have hko : k < p.opts.length := by have := hlen.out; omega
      obtain ⟨g, c2, hv, _, _⟩ := owns_head hown (by omega)
      cases hv
      have ek : ((k + 1 : Nat) : Int) - 1 = k := by omega
      rw [ek]
      clear ek
      have hval : ((f.take (k + 1) ++ List.replicate (f.length - (k + 1)) 0).map (Value.int .i64))[k]? = some (.int .i64 (nth f k)) := by
        rw [nth_eq f k hk]; simp [List.getElem?_append, Nat.min_eq_left (show k + 1 ≤ f.length by omega)]
      have hset0 := Lib.hid (set_zero f k hk)
      have hset1 := Lib.hid (set_next f k hk)
      obtain ⟨d0, _, d2, _⟩ := owns_at x hown k hk
      rw [hval] at d0
      replace d0 := Since.cells (Later.cell d2 d0)
      replace d2 := Since.sizes (Later.size d2)
      replace hval := Lib.hid hval
      have hfk := hfill.out k hk
      obtain ⟨bo, oo, rfl, hbo, uo, co0, hO⟩ := hopts.out k hko
      obtain ⟨av, cv, rfl, lv, _⟩ := hO.opened
      go_wp2
      refine wp_region_since x (by kernel_rfl) (by kernel_rfl) ?_
      repeat (go_big_quiet_step (fail))
      refine wpQuiet_nil ?_
      rintro _ ⟨⟨y, hy⟩, rfl⟩
      replace hown := owns_later hown hy
      clear d0 d2
      obtain ⟨d0, d1, d2, d3⟩ := owns_at y hown k hk
      rw [hval.out] at d0
      cases hA : decide (nth f k + 1 < (nth p.opts k).length)
      · obtain ⟨z, hz, hown', _⟩ := d3 (.int .i64 0)
        clear d3
        go_wp2
        go_roundw
        case rel => exact ⟨k, by omega, by go_num, ⟨z, rfl, by rw [← hset0.out]; exact hown'⟩, all_from hno.out (by unfold dim; simpa using hA)⟩
        case measure => simp [intOf]
      · obtain ⟨z, hz, hown', _⟩ := d3 (.int .i64 (nth f k + 1))
        clear d3
        go_wp2
        go_ret2
        have hr := hstop.out k hk (by unfold dim; simpa using hA) hno.out
        rw [hr]
        rw [hset1.out] at hown'
        replace hown' := owns_mono (owns_len hown') hb1.size
        obtain ⟨z', hz'⟩ := z.down hb1
        rw [hz'] at hown'
        exact ⟨_, rfl, z', hz', hown'⟩
end Go.Proofs.Ytmpkbolabdmkkaa
