/- CONTRACTS of places' small functions: within, rank, compare. -/
import Derived.Test.YtmpkbolabdmkkaaBas3
import Derived.Deep.RegionHeld3
namespace Go.Proofs.Ytmpkbolabdmkkaa
open Go.RowKit

set_option maxHeartbeats 400000 in
theorem pwithin (a b c : Int) (w : World) :
    Calls Try.prog 94 #[.int .i64 a, .int .i64 b, .int .i64 c] w fun e w' => e = .returned (.bool (wi a b c)) ∧ w = w' := by
  go_enter Try.func94, Try.ntmps94
  go_wp2
  all_goals (go_ret; exact ⟨ret_bool (by simp [wi]; try omega), rfl⟩)

/-- -1, 0 or 1 -/
def cmpI (a b : Int) : Int := if a < b then -1 else if b < a then 1 else 0

set_option maxHeartbeats 400000 in
theorem pcompareInt (a b : Int) (w : World) :
    Calls Try.prog 159 #[.int .i64 a, .int .i64 b] w fun e w' => e = .returned (.int .i64 (cmpI a b)) ∧ w = w' := by
  go_enter Try.func159, Try.ntmps159
  by_cases h1 : a < b
  · go_wp2
    go_ret; exact ⟨ret_int (by simp [cmpI, h1]), rfl⟩
  · by_cases h2 : b < a
    · go_wp2
      go_ret; exact ⟨ret_int (by simp [cmpI, h1, h2]), rfl⟩
    · have hr : Hid (cmpI a b = 0) := Lib.hid (by unfold cmpI; rw [if_neg h1, if_neg h2])
      go_wp2
      go_ret; exact ⟨ret_int hr.out.symm, rfl⟩

/-- with a piece first -/
def rankI (o : Opt) : Int := if o.piece = 0 then 1 else 0
set_option maxHeartbeats 400000 in
theorem prank {W : World} (x : Later W) (o : Opt) :
    Calls Try.prog 164 #[.agg #[.int .i64 o.piece, .int .i64 o.shift, .bool o.back, .int .i64 o.colour]] x.w (Ends W (.int .i64 (rankI o))) := by
  go_enter Try.func164, Try.ntmps164
  by_cases h : o.piece = 0
  · have h' : (o.piece == 0) = true := by simp [h]
    have hr : Hid (rankI o = 1) := Lib.hid (by simp [rankI, h])
    clear h
    go_wp2
    go_ret; exact ⟨ret_int hr.out.symm, x.step (below_alloc1 _ _)⟩
  · have h' : (o.piece == 0) = false := by simp [h]
    have hr : Hid (rankI o = 0) := Lib.hid (by simp [rankI, h])
    clear h
    go_wp2
    go_ret; exact ⟨ret_int hr.out.symm, x.step (below_alloc1 _ _)⟩
def backI (b : Bool) : Int := if b = true then 1 else 0
set_option maxHeartbeats 400000 in
theorem pback {W : World} (x : Later W) (s : Int) (b : Bool) :
    Calls Try.prog 162 #[.agg #[.int .i64 s, .bool b]] x.w (Ends W (.int .i64 (backI b))) := by
  go_enter Try.func162, Try.ntmps162
  cases b
  all_goals
    go_wp2
    go_ret; exact ⟨ret_int rfl, x.step (below_alloc1 _ _)⟩

/-- the first that is not 0 -/
def orI : List Int → Int
  | [] => 0
  | a :: l => if a ≠ 0 then a else orI l
theorem orI_drop {l : List Int} : ∀ {k : Nat}, (∀ i, i < k → nth l i = 0) → k ≤ l.length → orI l = orI (l.drop k)
  | 0, _, _ => rfl
  | k + 1, h, hk => by
    rw [orI_drop (k := k) (fun i hi => h i (by omega)) (by omega)]
    have e : l.drop k = nth l k :: l.drop (k + 1) := by rw [nth_eq l k (by omega)]; exact List.drop_eq_getElem_cons (by omega)
    rw [e]
    show (if _ then _ else _) = _
    rw [if_neg (by simp [h k (by omega)])]
set_option maxRecDepth 100000 in
set_option maxHeartbeats 1000000 in
theorem por {W : World} (x : Later W) (v : Value) (l : List Int) (hl : IsInts W v l) :
    Calls Try.prog 163 #[v] x.w (Ends W (.int .i64 (orI l))) := by
  obtain ⟨a, c, rfl, ll, h⟩ := hl.opened
  clear hl
  have hd := Lib.hid (fun k => @orI_drop l k)
  go_enter Try.func163, Try.ntmps163
  go_wp2
  go_loopw [8] (fun i wr => ∃ k : Nat, k ≤ l.length ∧ i = .int .i64 k ∧ (∃ y : Later W, wr = y.w) ∧ (∀ i, i < k → nth l i = 0)) (fun i _ => l.length - (intOf i).toNat)
  case atStart => exact ⟨0, Nat.zero_le _, rfl, ⟨x, rfl⟩, by omega⟩
  case round =>
    obtain ⟨k, hk, rfl, ⟨x, rfl⟩, hz⟩ := hrel
    replace hz := Lib.hid hz
    by_cases hlt : k < l.length
    · obtain ⟨b, o, rfl, hb, c0⟩ := h.out k hlt
      have he : Hid (l.drop k = nth l k :: l.drop (k + 1)) := Lib.hid (by rw [nth_eq l k hlt]; exact List.drop_eq_getElem_cons hlt)
      cases hA : nth l k != 0
      · go_wp2
        go_roundw
        case rel => exact ⟨k + 1, by omega, by go_num, ⟨x, rfl⟩, all_step hz.out (eq_bneI hA)⟩
        case measure => simp [intOf]; omega
      · go_wp2
        go_ret
        exact ⟨ret_int (by rw [hd.out k hz.out hk, he.out]; show _ = (if _ then _ else _); rw [if_pos (ne_bneI hA)]), x, rfl⟩
    · obtain rfl : k = l.length := by omega
      go_wp2
      go_ret
      exact ⟨ret_int (by rw [hd.out _ hz.out (Nat.le_refl _), List.drop_length]; rfl), x, rfl⟩

theorem ints5 (w : World) (a b c d e : Int) (T : TypeId) : IsInts (w.alloc (.cells #[.int .i64 a, .int .i64 b, .int .i64 c, .int .i64 d, .int .i64 e] T)) (.slice (some ⟨w.heap.size, 0, none⟩) 5 5) [a, b, c, d, e] := by
  refine ⟨_, 5, rfl, by simp, fun i hi => ⟨_, 0, rfl, by simp, ?_⟩⟩
  have hi' : i < 5 := hi
  have h5 : i = 0 ∨ i = 1 ∨ i = 2 ∨ i = 3 ∨ i = 4 := by omega
  rcases h5 with rfl | rfl | rfl | rfl | rfl <;> simp [nth]
theorem por5 {W : World} {w : World} (hb : Below W.heap.size W w) (a b c d e : Int) (T : TypeId) :
    Calls Try.prog 163 #[.slice (some ⟨w.heap.size, 0, none⟩) 5 5] (w.alloc (.cells #[.int .i64 a, .int .i64 b, .int .i64 c, .int .i64 d, .int .i64 e] T)) (Ends W (.int .i64 (orI [a, b, c, d, e]))) := by
  refine (por (Later.now _) _ [a, b, c, d, e] (ints5 w a b c d e T)).mono ?_
  rintro e w' ⟨rfl, y, rfl⟩
  exact ⟨rfl, y.down (hb.alloc hb.size _)⟩

/-- how two options compare -/
def cmpO (a b : Opt) : Int := orI [cmpI (rankI a) (rankI b), cmpI a.piece b.piece, cmpI a.shift b.shift, cmpI (backI a.back) (backI b.back), cmpI a.colour b.colour]

set_option maxRecDepth 100000 in
set_option maxHeartbeats 2000000 in
theorem pcompare {W : World} (x : Later W) (a b : Opt) :
    Calls Try.prog 137 #[.agg #[.int .i64 a.piece, .int .i64 a.shift, .bool a.back, .int .i64 a.colour], .agg #[.int .i64 b.piece, .int .i64 b.shift, .bool b.back, .int .i64 b.colour]] x.w (Ends W (.int .i64 (cmpO a b))) := by
  go_enter Try.func137, Try.ntmps137
  go_upto_region 1 with (fail)
  obtain ⟨W1, x1, e1, hb1, ⟨s1, s2⟩, ⟨p0, p1, p2, p3⟩, q0, q1, q2, q3⟩ := enter44 x (.int .i64 a.piece) (.int .i64 a.shift) (.bool a.back) (.int .i64 a.colour) (.int .i64 b.piece) (.int .i64 b.shift) (.bool b.back) (.int .i64 b.colour) 137 57
  rw [e1]; clear e1
  go_upto_region 2 with (fail)
  have keep : ∀ w' : World, Below W1.heap.size W1 w' → Below W1.heap.size W1 w' ∧ w'.cell? ⟨x.w.heap.size, 0, none⟩ = some (.int .i64 a.piece) ∧ w'.cell? ⟨x.w.heap.size, 1, none⟩ = some (.int .i64 a.shift) ∧ w'.cell? ⟨x.w.heap.size, 2, none⟩ = some (.bool a.back) ∧ w'.cell? ⟨x.w.heap.size, 3, none⟩ = some (.int .i64 a.colour) ∧ w'.cell? ⟨x.w.heap.size + 1, 0, none⟩ = some (.int .i64 b.piece) ∧ w'.cell? ⟨x.w.heap.size + 1, 1, none⟩ = some (.int .i64 b.shift) ∧ w'.cell? ⟨x.w.heap.size + 1, 2, none⟩ = some (.bool b.back) ∧ w'.cell? ⟨x.w.heap.size + 1, 3, none⟩ = some (.int .i64 b.colour) := fun w' h => ⟨h, p0 ⟨w', h⟩, p1 ⟨w', h⟩, p2 ⟨w', h⟩, p3 ⟨w', h⟩, q0 ⟨w', h⟩, q1 ⟨w', h⟩, q2 ⟨w', h⟩, q3 ⟨w', h⟩⟩
  go_region_held3 (fun w' => Below W1.heap.size W1 w' ∧ w'.cell? ⟨x.w.heap.size, 0, none⟩ = some (.int .i64 a.piece) ∧ w'.cell? ⟨x.w.heap.size, 1, none⟩ = some (.int .i64 a.shift) ∧ w'.cell? ⟨x.w.heap.size, 2, none⟩ = some (.bool a.back) ∧ w'.cell? ⟨x.w.heap.size, 3, none⟩ = some (.int .i64 a.colour) ∧ w'.cell? ⟨x.w.heap.size + 1, 0, none⟩ = some (.int .i64 b.piece) ∧ w'.cell? ⟨x.w.heap.size + 1, 1, none⟩ = some (.int .i64 b.shift) ∧ w'.cell? ⟨x.w.heap.size + 1, 2, none⟩ = some (.bool b.back) ∧ w'.cell? ⟨x.w.heap.size + 1, 3, none⟩ = some (.int .i64 b.colour)) ((refine keep _ ?_; first | exact Later.h _ | exact Below.drew (Later.h _) | exact Below.alloc (Later.h _) (Later.h _).size _ | exact Below.alloc (Below.drew (Later.h _)) (Below.drew (Later.h _)).size _))
    (first | (go_at_call 159; refine (pcompareInt _ _ _).mono ?_; rintro e w' ⟨rfl, rfl⟩) | (go_at_call 164; refine (prank (W := W1) ⟨_, (by first | exact Later.h _ | exact Below.drew (Later.h _))⟩ _).mono ?_; rintro e w' ⟨rfl, y, rfl⟩) | (go_at_call 162; refine (pback (W := W1) ⟨_, (by first | exact Later.h _ | exact Below.drew (Later.h _))⟩ _ _).mono ?_; rintro e w' ⟨rfl, y, rfl⟩) | (go_at_call 163; refine (por5 (W := W1) (by first | exact Later.h _ | exact Below.drew (Later.h _)) _ _ _ _ _ _).mono ?_; rintro e w' ⟨rfl, y, rfl⟩))
  go_wp2
  go_ret; exact ⟨rfl, Later.down _ hb1⟩
end Go.Proofs.Ytmpkbolabdmkkaa
