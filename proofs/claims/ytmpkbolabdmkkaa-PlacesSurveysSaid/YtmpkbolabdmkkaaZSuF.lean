/- CONTRACTS of must, of leaving and its closures. -/
import Derived.Test.YtmpkbolabdmkkaaZSuD
import Derived.Tactics
import Derived.Tactics2
import Derived.Defers
import Derived.Recover
import Derived.Laws.Pointers
namespace Go.Proofs.Ytmpkbolabdmkkaa
open Go.RowKit

/-- what must panics with -/
def unlawful : List PanicEntry := [{ v := .iface 124 (.agg #[]), recovered := false }]
set_option maxRecDepth 100000 in
theorem must_yes (w : World) : Calls Try.prog 154 #[.bool true] w fun e w' => e = .returned (.tuple #[]) ∧ w = w' := by
  go_enter Try.func154, Try.ntmps154
  go_wp2
  first | go_end0 | (refine bodyPost_ret (results_none rfl _ _ _) rfl ?_)
  exact ⟨rfl, rfl⟩
set_option maxRecDepth 100000 in
theorem must_no (w : World) : Calls Try.prog 154 #[.bool false] w fun e w' => e = .panicked unlawful ∧ w = w' := by
  go_enter Try.func154, Try.ntmps154
  go_wp2
  simp [bodyPost, unlawful]

theorem idle153 (p : Addr) (w : World) :
    CallsD Try.prog 153 #[.pointer (some p)] .returning w fun e u' w' => e = .returned (.tuple #[]) ∧ u' = .returning ∧ w' = w := by
  refine callsD_of_wpS Try.func153 rfl fun c₀ cs hu => ?_
  apply wpS_seq
  apply wpS_region
  simp [wpOpsS, go_sem, recoverD, hu, Try.ntmps153, Exit.thenS]
  apply wpS_seq
  apply wpS_region
  simp [wpOpsS, go_sem, Exit.thenS]
  refine wpS_cond (t := false) (by simp [Act.eval, Array.replicate]) ?_
  simp only [Bool.false_eq_true, if_false]
  refine wpS_of_wp (wp_skip ?_)
  cases c₀
  simp_all [bodyPostS, results, Try.results153]
set_option maxRecDepth 100000 in
theorem pan153 (p : Addr) (x : Bool) (older : List PanicEntry) (w : World) (hc : w.cell? p = some (.bool x)) (hz : w.frozen? p = false) :
    CallsD Try.prog 153 #[.pointer (some p)] (.panicking ({ v := .iface 124 (.agg #[]), recovered := false } :: older)) w fun e u' w' =>
      e = .returned (.tuple #[]) ∧ u' = .panicking ({ v := .iface 124 (.agg #[]), recovered := true } :: older) ∧ w' = w.setCell p (.bool true) := by
  have hta : ∀ w, (Instr.typeAssert (.iface 124 (.agg #[])) 20 124 true).run Try.prog w = .ok (.tuple #[.agg #[], .bool true]) w := fun _ => by kernel_rfl
  have hc2 := World.cell?_setCell_same w p (.bool true) hc
  refine callsD_of_wpS Try.func153 rfl fun c₀ cs hu => ?_
  apply wpS_seq
  apply wpS_region
  simp [wpOpsS, go_sem, recoverD, hu, Try.ntmps153, Exit.thenS, Array.replicate]
  refine wpS_of_wp ?_
  go_wp2
  simp [bodyPostS, results, Try.results153]

theorem idle147 (p : Addr) (w : World) :
    CallsD Try.prog 147 #[.pointer (some p)] .returning w fun e u' w' => e = .returned (.tuple #[]) ∧ u' = .returning ∧ w' = w := by
  refine callsD_of_wpS Try.func147 rfl fun c₀ cs hu => ?_
  apply wpS_seq
  apply wpS_region
  simp [wpOpsS, go_sem, recoverD, hu, Try.ntmps147, Exit.thenS]
  apply wpS_seq
  apply wpS_region
  simp [wpOpsS, go_sem, Exit.thenS]
  refine wpS_cond (t := false) (by simp [Act.eval, Array.replicate]) ?_
  simp only [Bool.false_eq_true, if_false]
  refine wpS_of_wp (wp_skip ?_)
  cases c₀
  simp_all [bodyPostS, results, Try.results147]

/- leaving, where what it runs comes back: f is a closure with what it captured -/
set_option maxRecDepth 100000 in
theorem leaving_back (cap : Array Value) (W : World) (Q : World → Prop) (hQ : ∀ w', Q w' → w'.cell? ⟨W.heap.size, 0, none⟩ = some (.bool false) ∧ w'.frozen? ⟨W.heap.size, 0, none⟩ = false)
    (hrun : Calls Try.prog 120 cap (W.alloc (.cells #[.bool false] 4)) fun e w' => e = .returned (.tuple #[]) ∧ Q w') :
    Calls Try.prog 119 #[.func (.func 120) #[] cap] W fun e w' => e = .returned (.bool false) ∧ ∃ w1, Q w1 ∧ w' = w1.setCell ⟨W.heap.size, 0, none⟩ (.bool false) := by
  have hmf : ∀ (fn : Fn) (first cap : Array Value) (w : World), (Instr.makeFunc fn first cap).run Try.prog w = .ok (.func fn first cap) w := fun _ _ _ _ => rfl
  go_enter_defers Try.func119, Try.ntmps119
  go_wp2_with (go_at_call 120; refine hrun.mono ?_; rintro e w1 ⟨rfl, hq⟩; obtain ⟨q0, q1⟩ := hQ _ hq; have q2 := World.cell?_setCell_same w1 ⟨W.heap.size, 0, none⟩ (.bool false) q0)
  refine leaves_cons (f := 153) (args := #[.pointer (some ⟨W.heap.size, 0, none⟩)]) (by simp) (by simp [go_sem]) ?_
  refine (idle153 ⟨W.heap.size, 0, none⟩ _).mono ?_
  rintro e u' w'' ⟨rfl, rfl, rfl⟩
  simp [Leaves, settle, results, Try.results119, go_sem, q2]
  exact ⟨_, hq, rfl⟩
theorem leaving_panic (cap : Array Value) (W : World) (Q : World → Prop) (hQ : ∀ w', Q w' → w'.cell? ⟨W.heap.size, 0, none⟩ = some (.bool false) ∧ w'.frozen? ⟨W.heap.size, 0, none⟩ = false)
    (hrun : Calls Try.prog 120 cap (W.alloc (.cells #[.bool false] 4)) fun e w' => e = .panicked unlawful ∧ Q w') :
    Calls Try.prog 119 #[.func (.func 120) #[] cap] W fun e w' => e = .returned (.bool true) ∧ ∃ w1, Q w1 ∧ w' = w1.setCell ⟨W.heap.size, 0, none⟩ (.bool true) := by
  have hmf : ∀ (fn : Fn) (first cap : Array Value) (w : World), (Instr.makeFunc fn first cap).run Try.prog w = .ok (.func fn first cap) w := fun _ _ _ _ => rfl
  go_enter_defers Try.func119, Try.ntmps119
  go_wp2_with (go_at_call 120; refine hrun.mono ?_; rintro e w1 ⟨rfl, hq⟩; obtain ⟨q0, q1⟩ := hQ _ hq; have q2 := World.cell?_setCell_same w1 ⟨W.heap.size, 0, none⟩ (.bool true) q0)
  unfold unlawful
  refine leaves_cons (f := 153) (args := #[.pointer (some ⟨W.heap.size, 0, none⟩)]) (by simp) (by simp [go_sem]) ?_
  refine (pan153 ⟨W.heap.size, 0, none⟩ false [] w1 q0 q1).mono ?_
  rintro e u' w'' ⟨rfl, rfl, rfl⟩
  simp [Leaves, settle, results, Try.results119, go_sem, q2]
  exact ⟨_, hq, rfl⟩

/- the same, of Survey: what it runs comes back -/
set_option maxRecDepth 100000 in
theorem leaving_survey (cap : Array Value) (W : World) (Q : World → Prop) (hQ : ∀ w', Q w' → w'.cell? ⟨W.heap.size, 0, none⟩ = some (.bool false) ∧ w'.frozen? ⟨W.heap.size, 0, none⟩ = false)
    (hrun : Calls Try.prog 116 cap (W.alloc (.cells #[.bool false] 4)) fun e w' => e = .returned (.tuple #[]) ∧ Q w') :
    Calls Try.prog 115 #[.func (.func 116) #[] cap] W fun e w' => e = .returned (.bool false) ∧ ∃ w1, Q w1 ∧ w' = w1.setCell ⟨W.heap.size, 0, none⟩ (.bool false) := by
  have hmf : ∀ (fn : Fn) (first cap : Array Value) (w : World), (Instr.makeFunc fn first cap).run Try.prog w = .ok (.func fn first cap) w := fun _ _ _ _ => rfl
  go_enter_defers Try.func115, Try.ntmps115
  go_wp2_with (go_at_call 116; refine hrun.mono ?_; rintro e w1 ⟨rfl, hq⟩; obtain ⟨q0, q1⟩ := hQ _ hq; have q2 := World.cell?_setCell_same w1 ⟨W.heap.size, 0, none⟩ (.bool false) q0)
  refine leaves_cons (f := 147) (args := #[.pointer (some ⟨W.heap.size, 0, none⟩)]) (by simp) (by simp [go_sem]) ?_
  refine (idle147 ⟨W.heap.size, 0, none⟩ _).mono ?_
  rintro e u' w'' ⟨rfl, rfl, rfl⟩
  simp [Leaves, settle, results, Try.results115, go_sem, q2]
  exact ⟨_, hq, rfl⟩
end Go.Proofs.Ytmpkbolabdmkkaa
