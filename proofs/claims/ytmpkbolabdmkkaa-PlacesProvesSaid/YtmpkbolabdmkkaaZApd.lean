/- append(append([]int{}, c...), o) IN A REGION THAT DRAWS ITS ORDER: laws for its two steps, whatever else was made before. -/
import Derived.Test.YtmpkbolabdmkkaaZSuD
import Derived.Test.YtmpkbolabdmkkaaZPoB
namespace Go.Proofs.Ytmpkbolabdmkkaa
open Go.RowKit

theorem run_appA (w : World) (B : Nat) (ty : TypeId) (v : Value) (n : Nat) (xs : List Value) (hown : w.ownsRow B 3 1 v n xs) (hB : B ≤ w.heap.size) (A : Option Addr) (m c : Nat) (news : List Value) (hl : news.length = m)
    (hcells : ∀ j, j < m → ∃ b o, A = some ⟨b, o, none⟩ ∧ w.cell? ⟨b, o + j, none⟩ = news[j]?) (h1 : ∀ u ∈ news, u.oneCell' = true) (hn : n + m ≤ 100000) :
    ∃ v' w', (Builtin.append_ #[22, 22] ty #[v, .slice A m c]).run Try.prog w = .ok v' w' ∧ w'.ownsRow B 3 1 v' (n + m) (xs ++ news) ∧ w.grownBy w' v.ownBlock ∧ (v'.ownBlock = v.ownBlock ∨ v'.ownBlock = some w.heap.size) := by
  obtain ⟨i0, hi, hz0, hz1, hz2⟩ := info_parts Try.info3
  rcases A with _ | ad
  · have hm : m = 0 := by
      rcases Nat.eq_zero_or_pos m with h0 | h0
      · exact h0
      · obtain ⟨b, o, h, _⟩ := hcells 0 h0; cases h
    subst hm
    obtain rfl : news = [] := List.eq_nil_of_length_eq_zero hl
    exact ⟨v, w, run_app_nil w B 22 ty 3 i0 1 Try.underlying22 hi v n xs hown c, by simpa using hown, World.grownBy.refl w _, .inl rfl⟩
  · have hc : ∀ j u, news[j]? = some u → w.cell? (ad.add j) = some u := by
      intro j u hu
      have hj : j < m := by rw [← hl]; exact (List.getElem?_eq_some_iff.1 hu).1
      obtain ⟨b, o, e1, e2⟩ := hcells j hj
      cases e1
      rw [hu] at e2
      have hadd : (⟨b, o, none⟩ : Addr).add j = ⟨b, o + j, none⟩ := by unfold Addr.add; split <;> simp_all
      rw [hadd]; exact e2
    obtain ⟨v', w', hrun, h2, h3, _, h5⟩ := run_append_own_at (P := Try.prog) w B 22 ty 3 i0 _ 1 8 Try.underlying22 hi hz0 hz1 hz2 rfl (by decide) v n xs hown ad m c news (by omega) hc h1 (by unfold maxLen; omega) (by omega) hB
    exact ⟨v', w', hrun, h2, h3, h5⟩
theorem own_lit0 (B : Nat) (w : World) (n : Nat) (hn : n = w.heap.size) (h : B ≤ n) : (w.alloc (.cells #[] 3)).ownsRow B 3 1 (.slice (some ⟨n, 0, none⟩) 0 0) 0 [] := by subst hn; exact World.ownsRow_lit w #[] 0 h (by unfold maxLen; omega) (by simp)

/-- the block of a row that is appended to, or a new one -/
def Near (n0 : Nat) (w : World) (A : Option Addr) (n c : Nat) : Prop := ∀ g, (Value.slice A n c).ownBlock = some g → g = n0 ∨ g = w.heap.size
/-- what was there is as it was, but for one row's block -/
def Keeps1 (P : Nat → Prop) (w w' : World) : Prop := w.heap.size ≤ w'.heap.size ∧ ∀ k, k < w.heap.size → ¬ P k → w'.heap[k]? = w.heap[k]?
theorem Keeps1.cell {P : Nat → Prop} {w w' : World} (h : Keeps1 P w w') {b o : Nat} {u : Value} (hb : ¬ P b) (hc : w.cell? ⟨b, o, none⟩ = some u) : w'.cell? ⟨b, o, none⟩ = some u :=
  (World.cell?_of_block (a := ⟨b, o, none⟩) (h.2 b (block_lt_of_cell hc) hb)).trans hc
theorem Keeps1.frozen {P : Nat → Prop} {w w' : World} (h : Keeps1 P w w') {b o : Nat} (hb : ¬ P b) (hlt : b < w.heap.size) : w'.frozen? ⟨b, o, none⟩ = w.frozen? ⟨b, o, none⟩ :=
  World.frozen?_of_block (a := ⟨b, o, none⟩) (h.2 b hlt hb)

theorem step_app1 {ops : Array Oper} {o : Oper} {a : Act} {w : World} {K : Act → World → Prop} {Q : Exit → Act → World → Prop} {G : Prop} (E : World) (hb : Below E.heap.size E w) (hgd : o.guard = none) (s x : Operand) (ho : o.op = .call { callee := .builtin .append, args := #[s, x], argTypes := #[22, 22] })
    (n0 : Nat) (hown : w.ownsRow E.heap.size 3 1 (.slice (some ⟨n0, 0, none⟩) 0 0) 0 []) (af : Option Addr) (c : List Int) (cf : Nat) (hI : IsInts E (.slice af c.length cf) c) (hlen : c.length ≤ 1000)
    (hs : a.eval s = .slice (some ⟨n0, 0, none⟩) 0 0) (hx : a.eval x = .slice af c.length cf)
    (hK : ∀ (A5 : Option Addr) (c5 : Nat) (y : Later E), y.w.ownsRow E.heap.size 3 1 (.slice A5 c.length c5) c.length (c.map (Value.int .i64)) → Keeps1 (· = n0) w y.w → Near n0 w A5 c.length c5 → K (a.put o.dst (.slice A5 c.length c5)) y.w) :
    if Region.wanted o (yielded ops a.tmps) = true then Oper.wp Try.prog o a w K Q else G := by
  have hw : Region.wanted o (yielded ops a.tmps) = true := by simp [Region.wanted, hgd]
  rw [if_pos hw]
  obtain ⟨af', cf', he, _, hfs⟩ := hI.opened
  cases he
  obtain ⟨v', w', hrun, h2, h3, h5⟩ := run_appA w E.heap.size o.type _ 0 [] hown hb.size af c.length cf (c.map (Value.int .i64)) (by simp) (fun j hj => ints_cells hfs.out ⟨w, hb⟩ j (by omega)) (ints_one _) (by omega)
  simp only [Nat.zero_add, List.nil_append] at h2
  obtain ⟨A5, c5, rfl⟩ := owns_slice h2
  obtain ⟨y, rfl⟩ := (⟨w, hb⟩ : Later E).grown h3 (fun k hk => (hown.lt k hk).1)
  have hK' := hK A5 c5 y h2 ⟨h3.size, fun k hk hne => h3.block k hk (fun e => by cases e; exact hne rfl)⟩ (fun g hg => by rcases h5 with h5 | h5 <;> rw [h5] at hg <;> cases hg; exact .inl rfl; exact .inr rfl)
  unfold Oper.wp
  simp [execOp, ho, resolve, invoke, builtin, hs, hx, hrun, Result.andThen]
  exact hK'
theorem step_app2 {ops : Array Oper} {o : Oper} {a : Act} {w : World} {K : Act → World → Prop} {Q : Exit → Act → World → Prop} {G : Prop} (E : World) (hb : Below E.heap.size E w) (hgd : o.guard = none) (s x : Operand) (ho : o.op = .call { callee := .builtin .append, args := #[s, x], argTypes := #[22, 22] })
    (A5 : Option Addr) (c5 : Nat) (c : List Int) (hown : w.ownsRow E.heap.size 3 1 (.slice A5 c.length c5) c.length (c.map (Value.int .i64))) (n1 : Nat) (j : Int) (hc : w.cell? ⟨n1, 0, none⟩ = some (.int .i64 j)) (hlen : c.length ≤ 1000)
    (hs : a.eval s = .slice A5 c.length c5) (hx : a.eval x = .slice (some ⟨n1, 0, none⟩) 1 1)
    (hK : ∀ (A6 : Option Addr) (c6 : Nat) (y : Later E), y.w.ownsRow E.heap.size 3 1 (.slice A6 (c.length + 1) c6) (c.length + 1) ((c ++ [j]).map (Value.int .i64)) → Keeps1 (fun k => (Value.slice A5 c.length c5).ownBlock = some k) w y.w → K (a.put o.dst (.slice A6 (c.length + 1) c6)) y.w) :
    if Region.wanted o (yielded ops a.tmps) = true then Oper.wp Try.prog o a w K Q else G := by
  have hw : Region.wanted o (yielded ops a.tmps) = true := by simp [Region.wanted, hgd]
  rw [if_pos hw]
  have hcc : ∀ k, k < 1 → ∃ b o, (some ⟨n1, 0, none⟩ : Option Addr) = some ⟨b, o, none⟩ ∧ w.cell? ⟨b, o + k, none⟩ = [Value.int .i64 j][k]? := fun k hk => by
    obtain rfl : k = 0 := by omega
    exact ⟨n1, 0, rfl, by simpa using hc⟩
  obtain ⟨v', w', hrun, h2, h3, h5⟩ := run_appA w E.heap.size o.type _ c.length _ hown hb.size (some ⟨n1, 0, none⟩) 1 1 [.int .i64 j] rfl hcc (by simp [Value.oneCell']) (by omega)
  rw [show c.map (Value.int .i64) ++ [.int .i64 j] = (c ++ [j]).map (Value.int .i64) by simp] at h2
  obtain ⟨A6, c6, rfl⟩ := owns_slice h2
  obtain ⟨y, rfl⟩ := (⟨w, hb⟩ : Later E).grown h3 (fun k hk => (hown.lt k hk).1)
  have hK' := hK A6 c6 y h2 ⟨h3.size, fun k hk hne => h3.block k hk (fun e => hne e.symm)⟩
  unfold Oper.wp
  simp [execOp, ho, resolve, invoke, builtin, hs, hx, hrun, Result.andThen]
  exact hK'
theorem cell_b1a (w : World) (o : Obj) (u : Value) : ((w.alloc o).alloc (.cells #[u] 3)).drew.cell? ⟨w.heap.size + 1, 0, none⟩ = some u := (World.cell?_alloc_at #[u] 3 _ 0 (by simp)).trans rfl
theorem cell_b1b (w : World) (u : Value) : ((w.alloc (.cells #[u] 3)).alloc (.cells #[] 3)).drew.cell? ⟨w.heap.size, 0, none⟩ = some u := (World.cell?_alloc_past _ _ 0 (by simp)).trans ((World.cell?_alloc_at #[u] 3 _ 0 rfl).trans rfl)
/-- the row that was appended to, as numbers, outside elder blocks -/
theorem ints_fresh {E : World} {y : Later E} {A : Option Addr} {cc : Nat} {c : List Int} {j : Int} (h : y.w.ownsRow E.heap.size 3 1 (.slice A (c.length + 1) cc) (c.length + 1) ((c ++ [j]).map (Value.int .i64))) (hl : c.length ≤ 1000) : IsInts (wout (fun k => decide (k < E.heap.size)) y.w) (.slice A (c.length + 1) cc) (c ++ [j]) :=
  isInts_of_owns (owns_fresh h) (by omega)
end Go.Proofs.Ytmpkbolabdmkkaa
