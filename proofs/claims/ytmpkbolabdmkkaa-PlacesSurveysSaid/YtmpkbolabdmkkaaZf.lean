/- CONTRACTS of places' small functions: within, rank, compare. -/
import Derived.Test.YtmpkbolabdmkkaaZa
import Derived.Deep.RegionHeld3
namespace Go.Proofs.Ytmpkbolabdmkkaa
open Go.RowKit

set_option maxHeartbeats 400000 in
theorem pwithin (a b c : Int) (w : World) :
    Calls Try.prog 94 #[.int .i64 a, .int .i64 b, .int .i64 c] w fun e w' => e = .returned (.bool (wi a b c)) ∧ w = w' := by
  go_enter Try.func94, Try.ntmps94
  go_wp2
  all_goals (go_ret; exact ⟨ret_bool (by simp [wi]; try omega), rfl⟩)

/-- -1, 0 or 1 -/
def cmpI (a b : Int) : Int := if a < b then -1 else if b < a then 1 else 0

set_option maxHeartbeats 400000 in
theorem pcompareInt (a b : Int) (w : World) :
    Calls Try.prog 159 #[.int .i64 a, .int .i64 b] w fun e w' => e = .returned (.int .i64 (cmpI a b)) ∧ w = w' := by
  go_enter Try.func159, Try.ntmps159
  by_cases h1 : a < b
  · go_wp2
    go_ret; exact ⟨ret_int (by simp [cmpI, h1]), rfl⟩
  · by_cases h2 : b < a
    · go_wp2
      go_ret; exact ⟨ret_int (by simp [cmpI, h1, h2]), rfl⟩
    · have hr : Hid (cmpI a b = 0) := Lib.hid (by unfold cmpI; rw [if_neg h1, if_neg h2])
      go_wp2
      go_ret; exact ⟨ret_int hr.out.symm, rfl⟩

/-- with a piece first -/
def rankI (o : Opt) : Int := if o.piece = 0 then 1 else 0
set_option maxHeartbeats 400000 in
theorem prank {W : World} (x : Later W) (o : Opt) :
    Calls Try.prog 164 #[.agg #[.int .i64 o.piece, .int .i64 o.shift, .bool o.back, .int .i64 o.colour]] x.w (Ends W (.int .i64 (rankI o))) := by
  go_enter Try.func164, Try.ntmps164
  by_cases h : o.piece = 0
  · have h' : (o.piece == 0) = true := by simp [h]
    have hr : Hid (rankI o = 1) := Lib.hid (by simp [rankI, h])
    clear h
    go_wp2
    go_ret; exact ⟨ret_int hr.out.symm, x.step (below_alloc1 _ _)⟩
  · have h' : (o.piece == 0) = false := by simp [h]
    have hr : Hid (rankI o = 0) := Lib.hid (by simp [rankI, h])
    clear h
    go_wp2
    go_ret; exact ⟨ret_int hr.out.symm, x.step (below_alloc1 _ _)⟩
def backI (b : Bool) : Int := if b = true then 1 else 0
set_option maxHeartbeats 400000 in
theorem pback {W : World} (x : Later W) (s : Int) (b : Bool) :
    Calls Try.prog 162 #[.agg #[.int .i64 s, .bool b]] x.w (Ends W (.int .i64 (backI b))) := by
  go_enter Try.func162, Try.ntmps162
  cases b
  all_goals
    go_wp2
    go_ret; exact ⟨ret_int rfl, x.step (below_alloc1 _ _)⟩

/-- the first that is not 0 -/
def orI : List Int → Int
  | [] => 0
  | a :: l => if a ≠ 0 then a else orI l
theorem orI_drop {l : List Int} : ∀ {k : Nat}, (∀ i, i < k → nth l i = 0) → k ≤ l.length → orI l = orI (l.drop k)
  | 0, _, _ => rfl
  | k + 1, h, hk => by
    rw [orI_drop (k := k) (fun i hi => h i (by omega)) (by omega)]
    have e : l.drop k = nth l k :: l.drop (k + 1) := by rw [nth_eq l k (by omega)]; exact List.drop_eq_getElem_cons (by omega)
    rw [e]
    show (if _ then _ else _) = _
    rw [if_neg (by simp [h k (by omega)])]
set_option maxRecDepth 100000 in
set_option maxHeartbeats 1000000 in
theorem por {W : World} (x : Later W) (v : Value) (l : List Int) (hl : IsInts W v l) :
    Calls Try.prog 163 #[v] x.w (Ends W (.int .i64 (orI l))) := by
  obtain ⟨a, c, rfl, ll, h⟩ := hl.opened
  clear hl
  have hd := Lib.hid (fun k => @orI_drop l k)
  go_enter Try.func163, Try.ntmps163
  go_wp2
  go_loopw [8] (fun i wr => ∃ k : Nat, k ≤ l.length ∧ i = .int .i64 k ∧ (∃ y : Later W, wr = y.w) ∧ (∀ i, i < k → nth l i = 0)) (fun i _ => l.length - (intOf i).toNat)
  case atStart => exact ⟨0, Nat.zero_le _, rfl, ⟨x, rfl⟩, by omega⟩
  case round =>
    obtain ⟨k, hk, rfl, ⟨x, rfl⟩, hz⟩ := hrel
    replace hz := Lib.hid hz
    by_cases hlt : k < l.length
    · obtain ⟨b, o, rfl, hb, c0⟩ := h.out k hlt
      have he : Hid (l.drop k = nth l k :: l.drop (k + 1)) := Lib.hid (by rw [nth_eq l k hlt]; exact List.drop_eq_getElem_cons hlt)
      cases hA : nth l k != 0
      · go_wp2
        go_roundw
        case rel => exact ⟨k + 1, by omega, by go_num, ⟨x, rfl⟩, all_step hz.out (eq_bneI hA)⟩
        case measure => simp [intOf]; omega
      · go_wp2
        go_ret
        exact ⟨ret_int (by rw [hd.out k hz.out hk, he.out]; show _ = (if _ then _ else _); rw [if_pos (ne_bneI hA)]), x, rfl⟩
    · obtain rfl : k = l.length := by omega
      go_wp2
      go_ret
      exact ⟨ret_int (by rw [hd.out _ hz.out (Nat.le_refl _), List.drop_length]; rfl), x, rfl⟩

theorem ints5 (w : World) (a b c d e : Int) (T : TypeId) : IsInts (w.alloc (.cells #[.int .i64 a, .int .i64 b, .int .i64 c, .int .i64 d, .int .i64 e] T)) (.slice (some ⟨w.heap.size, 0, none⟩) 5 5) [a, b, c, d, e] := by
  refine ⟨_, 5, rfl, by simp, fun i hi => ⟨_, 0, rfl, by simp, ?_⟩⟩
  have hi' : i < 5 := hi
  have h5 : i = 0 ∨ i = 1 ∨ i = 2 ∨ i = 3 ∨ i = 4 := by omega
  rcases h5 with rfl | rfl | rfl | rfl | rfl <;> simp [nth]
theorem por5 {W : World} {w : World} (hb : Below W.heap.size W w) (a b c d e : Int) (T : TypeId) :
    Calls Try.prog 163 #[.slice (some ⟨w.heap.size, 0, none⟩) 5 5] (w.alloc (.cells #[.int .i64 a, .int .i64 b, .int .i64 c, .int .i64 d, .int .i64 e] T)) (Ends W (.int .i64 (orI [a, b, c, d, e]))) := by
  refine (por (Later.now _) _ [a, b, c, d, e] (ints5 w a b c d e T)).mono ?_
  rintro e w' ⟨rfl, y, rfl⟩
  exact ⟨rfl, y.down (hb.alloc hb.size _)⟩

/-- how two options compare -/
def cmpO (a b : Opt) : Int := orI [cmpI (rankI a) (rankI b), cmpI a.piece b.piece, cmpI a.shift b.shift, cmpI (backI a.back) (backI b.back), cmpI a.colour b.colour]

set_option maxRecDepth 100000 in
set_option maxHeartbeats 2000000 in
theorem pcompare {W : World} (x : Later W) (a b : Opt) :
    Calls Try.prog 137 #[.agg #[.int .i64 a.piece, .int .i64 a.shift, .bool a.back, .int .i64 a.colour], .agg #[.int .i64 b.piece, .int .i64 b.shift, .bool b.back, .int .i64 b.colour]] x.w (Ends W (.int .i64 (cmpO a b))) := by
  go_enter Try.func137, Try.ntmps137
  go_upto_region 1 with (fail)
  obtain ⟨W1, x1, e1, hb1, ⟨s1, s2⟩, ⟨p0, p1, p2, p3⟩, q0, q1, q2, q3⟩ := enter44 x (.int .i64 a.piece) (.int .i64 a.shift) (.bool a.back) (.int .i64 a.colour) (.int .i64 b.piece) (.int .i64 b.shift) (.bool b.back) (.int .i64 b.colour) 137 57
  rw [e1]; clear e1
  go_upto_region 2 with (fail)
  have keep : ∀ w' : World, Below W1.heap.size W1 w' → Below W1.heap.size W1 w' ∧ w'.cell? ⟨x.w.heap.size, 0, none⟩ = some (.int .i64 a.piece) ∧ w'.cell? ⟨x.w.heap.size, 1, none⟩ = some (.int .i64 a.shift) ∧ w'.cell? ⟨x.w.heap.size, 2, none⟩ = some (.bool a.back) ∧ w'.cell? ⟨x.w.heap.size, 3, none⟩ = some (.int .i64 a.colour) ∧ w'.cell? ⟨x.w.heap.size + 1, 0, none⟩ = some (.int .i64 b.piece) ∧ w'.cell? ⟨x.w.heap.size + 1, 1, none⟩ = some (.int .i64 b.shift) ∧ w'.cell? ⟨x.w.heap.size + 1, 2, none⟩ = some (.bool b.back) ∧ w'.cell? ⟨x.w.heap.size + 1, 3, none⟩ = some (.int .i64 b.colour) := fun w' h => ⟨h, p0 ⟨w', h⟩, p1 ⟨w', h⟩, p2 ⟨w', h⟩, p3 ⟨w', h⟩, q0 ⟨w', h⟩, q1 ⟨w', h⟩, q2 ⟨w', h⟩, q3 ⟨w', h⟩⟩
  go_region_held3 (fun w' => Below W1.heap.size W1 w' ∧ w'.cell? ⟨x.w.heap.size, 0, none⟩ = some (.int .i64 a.piece) ∧ w'.cell? ⟨x.w.heap.size, 1, none⟩ = some (.int .i64 a.shift) ∧ w'.cell? ⟨x.w.heap.size, 2, none⟩ = some (.bool a.back) ∧ w'.cell? ⟨x.w.heap.size, 3, none⟩ = some (.int .i64 a.colour) ∧ w'.cell? ⟨x.w.heap.size + 1, 0, none⟩ = some (.int .i64 b.piece) ∧ w'.cell? ⟨x.w.heap.size + 1, 1, none⟩ = some (.int .i64 b.shift) ∧ w'.cell? ⟨x.w.heap.size + 1, 2, none⟩ = some (.bool b.back) ∧ w'.cell? ⟨x.w.heap.size + 1, 3, none⟩ = some (.int .i64 b.colour)) ((refine keep _ ?_; first | exact Later.h _ | exact Below.drew (Later.h _) | exact Below.alloc (Later.h _) (Later.h _).size _ | exact Below.alloc (Below.drew (Later.h _)) (Below.drew (Later.h _)).size _))
    (first | (go_at_call 159; refine (pcompareInt _ _ _).mono ?_; rintro e w' ⟨rfl, rfl⟩) | (go_at_call 164; refine (prank (W := W1) ⟨_, (by first | exact Later.h _ | exact Below.drew (Later.h _))⟩ _).mono ?_; rintro e w' ⟨rfl, y, rfl⟩) | (go_at_call 162; refine (pback (W := W1) ⟨_, (by first | exact Later.h _ | exact Below.drew (Later.h _))⟩ _ _).mono ?_; rintro e w' ⟨rfl, y, rfl⟩) | (go_at_call 163; refine (por5 (W := W1) (by first | exact Later.h _ | exact Below.drew (Later.h _)) _ _ _ _ _ _).mono ?_; rintro e w' ⟨rfl, y, rfl⟩))
  go_wp2
  go_ret; exact ⟨rfl, Later.down _ hb1⟩
end Go.Proofs.Ytmpkbolabdmkkaa

/- CONTRACTS of places' options and lists of options. -/
namespace Go.Proofs.Ytmpkbolabdmkkaa
open Go.RowKit

theorem orI_cmp (a b : Int) (l : List Int) : orI (cmpI a b :: l) = if a < b then -1 else if b < a then 1 else orI l := by
  show (if _ then _ else _) = _
  unfold cmpI
  by_cases h1 : a < b
  · simp [h1]
  · by_cases h2 : b < a <;> simp [h1, h2]
theorem back_lt (a b : Bool) : (backI a < backI b ↔ a = false ∧ b = true) := by cases a <;> cases b <;> simp [backI]
theorem rankI_lt (a b : Opt) : (rankI a < rankI b ↔ a.piece ≠ 0 ∧ b.piece = 0) := by
  unfold rankI; by_cases h1 : a.piece = 0 <;> by_cases h2 : b.piece = 0 <;> simp [h1, h2]
theorem cmpO_lt (a b : Opt) : decide (0 ≤ cmpO a b) = !optLt a b := by
  rw [Bool.eq_iff_iff]
  unfold cmpO
  simp only [orI_cmp, back_lt, rankI_lt]
  unfold optLt
  by_cases h1 : a.piece < b.piece
  · have : a.piece ≠ b.piece := by omega
    have : ¬ b.piece < a.piece := by omega
    by_cases h3 : a.piece = 0 <;> by_cases h4 : b.piece = 0 <;> simp [*] <;> omega
  · by_cases h2 : b.piece < a.piece
    · have : a.piece ≠ b.piece := by omega
      by_cases h3 : a.piece = 0 <;> by_cases h4 : b.piece = 0 <;> simp [*] <;> omega
    · have h3 : a.piece = b.piece := by omega
      by_cases h4 : a.shift < b.shift
      · have : a.shift ≠ b.shift := by omega
        simp [*]
      · by_cases h5 : b.shift < a.shift
        · have : a.shift ≠ b.shift := by omega
          simp [*]
        · have h6 : a.shift = b.shift := by omega
          cases ha : a.back <;> cases hb : b.back <;> simp [h3, h6]
          all_goals (by_cases h7 : a.colour < b.colour <;> by_cases h8 : b.colour < a.colour <;> simp [h7, h8, orI] <;> omega)

set_option maxHeartbeats 400000 in
theorem poption {W : World} (x : Later W) (o : Opt) :
    Calls Try.prog 138 #[.agg #[.int .i64 o.piece, .int .i64 o.shift, .bool o.back, .int .i64 o.colour]] x.w (Ends W (.bool (optOK o))) := by
  go_enter Try.func138, Try.ntmps138
  go_wp2_with (go_at_call 94; refine (pwithin _ _ _ _).mono ?_; rintro e w' ⟨rfl, rfl⟩)
  all_goals (go_ret; exact ⟨ret_bool (by simp_all [optOK]), x.step (below_alloc1 _ _)⟩)

set_option maxHeartbeats 1000000 in
theorem poptions {W : World} (x : Later W) (v : Value) (l : List Opt) (h : IsOpts W v l) :
    Calls Try.prog 95 #[v] x.w (Ends W (.bool (optsOK l))) := by
  obtain ⟨a, c, rfl, hl, h⟩ := h.opened
  by_cases hlen : 1 ≤ l.length ∧ l.length ≤ 256
  case neg =>
    have hno := Lib.hid (optsOK_no hlen)
    have hw : wi l.length 1 256 = false := by rw [wi_no]; omega
    clear hlen
    go_enter Try.func95, Try.ntmps95
    go_wp2_with (go_at_call 94; refine (pwithin _ _ _ _).mono ?_; rintro e w' ⟨rfl, rfl⟩)
    go_ret; exact ⟨ret_bool hno.out.symm, x, rfl⟩
  have hw : wi l.length 1 256 = true := by rw [wi_iff]; omega
  have hyes := Lib.hid (@optsOK_yes l hlen)
  obtain ⟨hlen1, hlen2⟩ := hlen
  go_enter Try.func95, Try.ntmps95
  go_wp2_with (go_at_call 94; refine (pwithin _ _ _ _).mono ?_; rintro e w' ⟨rfl, rfl⟩)
  go_loopw [12] (fun i wr => ∃ k : Nat, k ≤ l.length ∧ i = .int .i64 k ∧ (∃ x : Later W, wr = x.w) ∧ (∀ i, i < k → optOK (nth l i) = true ∧ (0 < i → optLt (nth l (i - 1)) (nth l i) = true))) (fun i _ => l.length - (intOf i).toNat)
  case atStart => exact ⟨0, Nat.zero_le _, rfl, ⟨x, rfl⟩, by omega⟩
  case round =>
    obtain ⟨k, hk, rfl, ⟨x, rfl⟩, hno⟩ := hrel
    replace hno := Lib.hid hno
    by_cases hlt : k < l.length
    · have hbad := Lib.hid (@optsOK_bad l k hlt)
      obtain ⟨b, o, rfl, hb, c0, c1, c2, c3⟩ := h.out k hlt
      have hcmp := Lib.hid (cmpO_lt (nth l (k - 1)) (nth l k))
      go_upto_region 6 with (fail)
      obtain ⟨W1, x1, e1, hb1, s1, q0, q1, q2, q3⟩ := enter4 x (.int .i64 (nth l k).piece) (.int .i64 (nth l k).shift) (.bool (nth l k).back) (.int .i64 (nth l k).colour) 57
      rw [e1]; clear e1
      replace hb := Later.sizes hb1 hb
      clear c0 c1 c2 c3
      by_cases h2 : 0 < k
      · obtain ⟨_, _, he, _, d0, d1, d2, d3⟩ := h.out (k - 1) (by omega)
        cases he
        replace d0 := Later.cells hb1 d0
        replace d1 := Later.cells hb1 d1
        replace d2 := Later.cells hb1 d2
        replace d3 := Later.cells hb1 d3
        cases h3 : decide (0 ≤ cmpO (nth l (k - 1)) (nth l k))
        · have h3' : optLt (nth l (k - 1)) (nth l k) = true := by have := hcmp.out; rw [h3] at this; simpa using this.symm
          replace h3' := Lib.hid h3'
          cases h1 : optOK (nth l k)
          · go_wp2_with (first | (go_at_call 137; refine (pcompare x1 _ _).mono ?_; rintro e w' ⟨rfl, x1, rfl⟩) | (go_at_call 138; refine (poption x1 _).mono ?_; rintro e w' ⟨rfl, x1, rfl⟩))
            go_ret; exact ⟨ret_bool (hbad.out (.inl h1)).symm, x1.down hb1⟩
          · go_wp2_with (first | (go_at_call 137; refine (pcompare x1 _ _).mono ?_; rintro e w' ⟨rfl, x1, rfl⟩) | (go_at_call 138; refine (poption x1 _).mono ?_; rintro e w' ⟨rfl, x1, rfl⟩))
            go_roundw
            case rel => exact ⟨k + 1, by omega, by go_num, x1.down hb1, all_step hno.out ⟨h1, fun _ => h3'.out⟩⟩
            case measure => simp [intOf]; omega
        · have h3' : optLt (nth l (k - 1)) (nth l k) = false := by have := hcmp.out; rw [h3] at this; simpa using this.symm
          replace h3' := Lib.hid h3'
          go_wp2_with (first | (go_at_call 137; refine (pcompare x1 _ _).mono ?_; rintro e w' ⟨rfl, x1, rfl⟩))
          go_ret; exact ⟨ret_bool (hbad.out (.inr ⟨h2, h3'.out⟩)).symm, x1.down hb1⟩
      · cases h1 : optOK (nth l k)
        · go_wp2_with (first | (go_at_call 138; refine (poption x1 _).mono ?_; rintro e w' ⟨rfl, x1, rfl⟩))
          go_ret; exact ⟨ret_bool (hbad.out (.inl h1)).symm, x1.down hb1⟩
        · go_wp2_with (first | (go_at_call 138; refine (poption x1 _).mono ?_; rintro e w' ⟨rfl, x1, rfl⟩))
          go_roundw
          case rel => exact ⟨k + 1, by omega, by go_num, x1.down hb1, all_step hno.out ⟨h1, fun h => absurd h h2⟩⟩
          case measure => simp [intOf]; omega
    · obtain rfl : k = l.length := by omega
      go_wp2
      go_ret; exact ⟨ret_bool (hyes.out hno.out).symm, x, rfl⟩
end Go.Proofs.Ytmpkbolabdmkkaa

/- CONTRACTS of places' check of a rule. -/
namespace Go.Proofs.Ytmpkbolabdmkkaa
open Go.RowKit

set_option maxHeartbeats 400000 in
theorem pknown {W : World} (x : Later W) (i : Int) (b : Nat) (a : Option Addr) (n c : Nat) (hn : n ≤ 17592186044416) (h : ∀ y : Later W, y.w.cell? ⟨b, 0, none⟩ = some (.slice a n c)) :
    Calls Try.prog 139 #[.int .i64 i, .pointer (some ⟨b, 0, none⟩)] x.w fun e w' => e = .returned (.bool (wi i 0 ((n : Int) - 1))) ∧ x.w = w' := by
  go_enter Try.func139, Try.ntmps139
  go_wp2_with (go_at_call 94; refine (pwithin _ _ _ _).mono ?_; rintro e w' ⟨rfl, rfl⟩)
  go_ret; exact ⟨rfl, rfl⟩

set_option maxHeartbeats 400000 in
theorem pother {W : World} (x : Later W) (u : Value) (l : List Bool) (b : Nat) (n : Nat) (hu : IsBools W u l) (h : ∀ y : Later W, y.w.cell? ⟨b, 0, none⟩ = some (.int .i64 n)) :
    Calls Try.prog 141 #[u, .pointer (some ⟨b, 0, none⟩)] x.w fun e w' => e = .returned (.bool ((l.length : Int) != (n : Int))) ∧ x.w = w' := by
  obtain ⟨a, c, rfl, ll, _⟩ := hu.opened
  go_enter Try.func141, Try.ntmps141
  go_wp2
  go_ret; exact ⟨rfl, rfl⟩
/-- some list is not n long -/
def offB (l : List (List Bool)) (n : Nat) : Bool := decide (∃ i, i < l.length ∧ (nth l i).length ≠ n)
theorem offB_yes {l : List (List Bool)} {n i : Nat} (hi : i < l.length) (h : (nth l i).length ≠ n) : offB l n = true := by unfold offB; rw [decide_eq_true_iff]; exact ⟨i, hi, h⟩
theorem offB_no {l : List (List Bool)} {n : Nat} (h : ∀ i, i < l.length → (nth l i).length = n) : offB l n = false := by
  unfold offB; rw [decide_eq_false_iff_not]; rintro ⟨i, hi, h'⟩; exact h' (h i hi)

set_option maxHeartbeats 1000000 in
theorem pindexOff {W : World} (x : Later W) (v : Value) (l : List (List Bool)) (b : Nat) (n : Nat) (hv : IsBoolss W v l) (h : ∀ y : Later W, y.w.cell? ⟨b, 0, none⟩ = some (.int .i64 n)) :
    Calls Try.prog 165 #[v, .func (.func 141) #[] #[.pointer (some ⟨b, 0, none⟩)]] x.w fun e w' => ∃ j : Int, e = .returned (.int .i64 j) ∧ decide (0 ≤ j) = offB l n ∧ ∃ y : Later W, w' = y.w := by
  obtain ⟨a, c, rfl, ll, hv⟩ := hv.opened
  have hno := Lib.hid (@offB_no l n)
  go_enter Try.func165, Try.ntmps165
  go_wp2
  go_loopw [8] (fun i wr => ∃ k : Nat, k ≤ l.length ∧ i = .int .i64 k ∧ (∃ y : Later W, wr = y.w) ∧ (∀ i, i < k → (nth l i).length = n)) (fun i _ => l.length - (intOf i).toNat)
  case atStart => exact ⟨0, Nat.zero_le _, rfl, ⟨x, rfl⟩, by omega⟩
  case round =>
    obtain ⟨k, hk, rfl, ⟨x, rfl⟩, hz⟩ := hrel
    replace hz := Lib.hid hz
    by_cases hlt : k < l.length
    · have hyes := Lib.hid (@offB_yes l n k hlt)
      obtain ⟨bk, ok, rfl, hbk, u, c0, hU⟩ := hv.out k hlt
      cases hA : ((nth l k).length : Int) != (n : Int)
      · go_wp2_with (go_at_call 141; refine (pother x _ _ _ n hU h).mono ?_; rintro e w' ⟨rfl, rfl⟩)
        go_roundw
        case rel => exact ⟨k + 1, by omega, by go_num, ⟨x, rfl⟩, all_step hz.out (eq_bne hA)⟩
        case measure => simp [intOf]; omega
      · go_wp2_with (go_at_call 141; refine (pother x _ _ _ n hU h).mono ?_; rintro e w' ⟨rfl, rfl⟩)
        go_ret
        exact ⟨_, rfl, by rw [hyes.out (ne_bne hA)]; simp, x, rfl⟩
    · obtain rfl : k = l.length := by omega
      go_wp2
      go_ret
      exact ⟨_, rfl, by rw [hno.out hz.out]; rfl, x, rfl⟩

set_option maxHeartbeats 1000000 in
theorem phasOff {W : World} (x : Later W) (v : Value) (l : List (List Bool)) (b : Nat) (n : Nat) (hv : IsBoolss W v l) (h : ∀ y : Later W, y.w.cell? ⟨b, 0, none⟩ = some (.int .i64 n)) :
    Calls Try.prog 140 #[v, .func (.func 141) #[] #[.pointer (some ⟨b, 0, none⟩)]] x.w (Ends W (.bool (offB l n))) := by
  go_enter Try.func140, Try.ntmps140
  go_wp2_with (go_at_call 165; refine (pindexOff x _ _ _ n hv h).mono ?_; rintro e w' ⟨j, rfl, hj, x, rfl⟩; replace hj := Lib.hid hj)
  go_ret; exact ⟨ret_bool hj.out, x, rfl⟩
end Go.Proofs.Ytmpkbolabdmkkaa

/- CONTRACT of places' check of a rule of pairs. -/
namespace Go.Proofs.Ytmpkbolabdmkkaa
open Go.RowKit

/-- a box made in a region that draws -/
theorem enter1d {W : World} (x : Later W) (v : Value) (T : TypeId) : ∃ (W1 : World) (x1 : Later W1), (x.w.alloc (.cells #[v] T)).drew = x1.w ∧ Below W.heap.size W W1 ∧ (∀ y : Later W1, x.w.heap.size < y.w.heap.size) ∧ ∀ y : Later W1, y.w.cell? ⟨x.w.heap.size, 0, none⟩ = some v := by
  have hs : x.w.heap.size < (x.w.alloc (.cells #[v] T)).heap.size := by simp
  refine ⟨_, ⟨_, Below.drew (Below.refl _ _)⟩, rfl, x.h.alloc x.h.size _, Later.size hs, Later.cell hs ?_⟩; simp
theorem offB_get {l : List (List Bool)} {n : Nat} (h : offB l n = false) : ∀ i, i < l.length → (nth l i).length = n := by
  unfold offB at h; rw [decide_eq_false_iff_not] at h; intro i hi
  by_cases h' : (nth l i).length = n
  · exact h'
  · exact absurd ⟨i, hi, h'⟩ h
theorem offB_not {l : List (List Bool)} {n : Nat} (h : offB l n = true) : ¬ ∀ i, i < l.length → (nth l i).length = n := by
  unfold offB at h; rw [decide_eq_true_iff] at h; obtain ⟨i, hi, h'⟩ := h; exact fun hh => h' (hh i hi)

theorem ruleOK_cnt {p : Prob} {r : Rl} (h : r.kind = 1) : ruleOK p r = cntOK p r := by simp [ruleOK, h]
theorem ruleOK_pair {p : Prob} {r : Rl} (h : r.kind = 2) : ruleOK p r = pairOK p r := by simp [ruleOK, h]
theorem ruleOK_none {p : Prob} {r : Rl} (h1 : r.kind ≠ 1) (h2 : r.kind ≠ 2) : ruleOK p r = false := by simp [ruleOK, h1, h2]

set_option maxRecDepth 100000 in
set_option maxHeartbeats 2000000 in
theorem prulePair {W : World} (x : Later W) (v0 v1 v2 u2 u3 u6 : Value) (p : Prob) (r : Rl) (hp : IsProb W v0 v1 v2 p) (hr : IsRl W u2 u3 u6 r) (hlen : p.opts.length = p.panes.length) (k2 : r.kind = 2) :
    Calls Try.prog 96 #[.agg #[v0, v1, v2], .agg #[.int .i64 r.item, .int .i64 r.kind, u2, u3, .int .i64 r.lo, .int .i64 r.hi, u6]] x.w (Ends W (.bool (ruleOK p r))) := by
  replace hlen := Lib.hid hlen
  replace k2 := Lib.hid k2
  go_enter Try.func96, Try.ntmps96
  go_upto_region 1 with (fail)
  obtain ⟨W1, x1, e1, hb1, ⟨s1, s2⟩, ⟨p0, p1, p2⟩, q0, q1, q2, q3, q4, q5, q6⟩ := enter37 x v0 v1 v2 (.int .i64 r.item) (.int .i64 r.kind) u2 u3 (.int .i64 r.lo) (.int .i64 r.hi) u6 26 87
  rw [e1]; clear e1
  obtain ⟨ap, cp, rfl, lp, hpanes⟩ := (hp.panes.below hb1).opened
  obtain ⟨ao, co, rfl, lo, hopts⟩ := (hp.opts.below hb1).opened
  obtain ⟨aq, cq, rfl, lq, hq⟩ := (hr.panes.below hb1).opened
  obtain ⟨ah, ch, rfl, lh, hh⟩ := (hr.hits.below hb1).opened
  have HK := Lib.hid (hr.ok.below hb1)
  obtain ⟨ak, ck, rfl, lk, hk⟩ := (hr.ok.below hb1).opened
  clear hp hr
  have ht := Lib.hid (@ruleOK_pair p r k2.out)
  rw [k2.out] at q1
  clear k2
  have hno := Lib.hid (@pairOK_no p r)
  have hyes := Lib.hid (@pairOK_iff p r)
  cases hg1 : ((r.panes.length : Int) != 2)
  case true =>
    replace hno := Lib.hid (ht.out.trans (hno.out (fun h => ne_bne hg1 h.1.1)))
    go_wp2
    refine wp_region_later x1 (by kernel_rfl) (by kernel_rfl) ?_
    repeat (go_big_quiet_step (fail))
    refine wpQuiet_nil ?_
    rintro _ ⟨x1, rfl⟩
    go_wp2
    go_ret; exact ⟨ret_bool hno.out.symm, x1.down hb1⟩
  have g1 : r.panes.length = 2 := eq_bne hg1
  obtain ⟨b, o, rfl, hb, c0⟩ := hq.out 0 (by omega)
  obtain ⟨_, _, he, _, c1⟩ := hq.out 1 (by omega)
  cases he
  simp only [Nat.add_zero] at c0
  cases hA : wi (nth r.panes 0) 0 ((p.panes.length : Int) - 1)
  case false =>
    go_wp2
    refine wp_region_later x1 (by kernel_rfl) (by kernel_rfl) ?_
    repeat (go_big_quiet_step ((go_at_call 139; exact calls_same (pknown _ _ _ _ _ _ lp p0))))
    refine wpQuiet_nil ?_
    rintro _ ⟨x1, rfl⟩
    go_wp2
    go_ret; exact ⟨ret_bool (ht.out.trans (hno.out (fun h => by have := h.2.2.1; rw [hA] at this; cases this))).symm, x1.down hb1⟩
  have hA' := wi_iff.1 hA
  cases hB : wi (nth r.panes 1) 0 ((p.panes.length : Int) - 1)
  case false =>
    go_wp2
    refine wp_region_later x1 (by kernel_rfl) (by kernel_rfl) ?_
    repeat (go_big_quiet_step ((go_at_call 139; exact calls_same (pknown _ _ _ _ _ _ lp p0))))
    refine wpQuiet_nil ?_
    rintro _ ⟨x1, rfl⟩
    go_wp2
    go_ret; exact ⟨ret_bool (ht.out.trans (hno.out (fun h => by have := h.2.2.2.1; rw [hB] at this; cases this))).symm, x1.down hb1⟩
  have hB' := wi_iff.1 hB
  cases hAB : nth r.panes 0 == nth r.panes 1
  case true =>
    go_wp2
    refine wp_region_later x1 (by kernel_rfl) (by kernel_rfl) ?_
    repeat (go_big_quiet_step ((go_at_call 139; exact calls_same (pknown _ _ _ _ _ _ lp p0))))
    refine wpQuiet_nil ?_
    rintro _ ⟨x1, rfl⟩
    go_wp2
    go_ret; exact ⟨ret_bool (ht.out.trans (hno.out (fun h => h.2.1 (eq_beqI hAB)))).symm, x1.down hb1⟩
  by_cases g2 : r.hits.length = 0
  case neg =>
    replace hno := Lib.hid (ht.out.trans (hno.out (fun h => g2 h.1.2.1)))
    have g2' : 0 < r.hits.length := by omega
    clear g2
    go_wp2
    refine wp_region_later x1 (by kernel_rfl) (by kernel_rfl) ?_
    repeat (go_big_quiet_step ((go_at_call 139; exact calls_same (pknown _ _ _ _ _ _ lp p0))))
    refine wpQuiet_nil ?_
    rintro _ ⟨x1, rfl⟩
    go_wp2
    go_ret; exact ⟨ret_bool hno.out.symm, x1.down hb1⟩
  have g2' : (r.hits.length : Int) = 0 := by omega
  by_cases g3 : r.lo = 0
  case neg =>
    replace hno := Lib.hid (ht.out.trans (hno.out (fun h => g3 h.1.2.2.1)))
    go_wp2
    refine wp_region_later x1 (by kernel_rfl) (by kernel_rfl) ?_
    repeat (go_big_quiet_step ((go_at_call 139; exact calls_same (pknown _ _ _ _ _ _ lp p0))))
    refine wpQuiet_nil ?_
    rintro _ ⟨x1, rfl⟩
    go_wp2
    go_ret; exact ⟨ret_bool hno.out.symm, x1.down hb1⟩
  by_cases g4 : r.hi = 0
  case neg =>
    replace hno := Lib.hid (ht.out.trans (hno.out (fun h => g4 h.1.2.2.2)))
    rw [g3] at q4
    go_wp2
    refine wp_region_later x1 (by kernel_rfl) (by kernel_rfl) ?_
    repeat (go_big_quiet_step ((go_at_call 139; exact calls_same (pknown _ _ _ _ _ _ lp p0))))
    refine wpQuiet_nil ?_
    rintro _ ⟨x1, rfl⟩
    go_wp2
    go_ret; exact ⟨ret_bool hno.out.symm, x1.down hb1⟩
  have hl' := Lib.hid (⟨g1, g2, g3, g4⟩ : r.panes.length = 2 ∧ r.hits.length = 0 ∧ r.lo = 0 ∧ r.hi = 0)
  rw [g3] at q4
  rw [g4] at q5
  have i0 : (nth r.panes 0).toNat < p.opts.length := by have := hlen.out; omega
  have i1 : (nth r.panes 1).toNat < p.opts.length := by have := hlen.out; omega
  obtain ⟨bo, oo, rfl, hbo, uo, co0, hO⟩ := hopts.out (nth r.panes 0).toNat i0
  obtain ⟨av, cv, rfl, lv, _⟩ := hO.opened
  obtain ⟨_, _, he, _, uo1, co1, hO1⟩ := hopts.out (nth r.panes 1).toNat i1
  cases he
  obtain ⟨av1, cv1, rfl, lv1, _⟩ := hO1.opened
  go_wp2
  refine wp_region_later x1 (by kernel_rfl) (by kernel_rfl) ?_
  repeat (go_big_quiet_step ((go_at_call 139; exact calls_same (pknown _ _ _ _ _ _ lp p0))))
  refine wpQuiet_nil ?_
  rintro _ ⟨x1, rfl⟩
  go_wp2
  have i1a : (0 : Int) ≤ nth r.panes 1 := hB'.1
  have i1b : nth r.panes 1 < (p.opts.length : Int) := by omega
  have keep : ∀ w' : World, Below W1.heap.size W1 w' → Below W1.heap.size W1 w' ∧ w'.cell? ⟨x.w.heap.size, 1, none⟩ = some (.slice (some ⟨bo, oo, none⟩) p.opts.length co) ∧ w'.cell? ⟨x.w.heap.size + 1, 2, none⟩ = some (.slice (some ⟨b, o, none⟩) r.panes.length cq) ∧ w'.cell? ⟨b, o + 1, none⟩ = some (.int .i64 (nth r.panes 1)) ∧ w'.cell? ⟨bo, oo + (nth r.panes 1).toNat, none⟩ = some (.slice av1 (nth p.opts (nth r.panes 1).toNat).length cv1) := fun w' h => ⟨h, p1 ⟨w', h⟩, q2 ⟨w', h⟩, c1 ⟨w', h⟩, co1 ⟨w', h⟩⟩
  go_region_held3 (fun w' => Below W1.heap.size W1 w' ∧ w'.cell? ⟨x.w.heap.size, 1, none⟩ = some (.slice (some ⟨bo, oo, none⟩) p.opts.length co) ∧ w'.cell? ⟨x.w.heap.size + 1, 2, none⟩ = some (.slice (some ⟨b, o, none⟩) r.panes.length cq) ∧ w'.cell? ⟨b, o + 1, none⟩ = some (.int .i64 (nth r.panes 1)) ∧ w'.cell? ⟨bo, oo + (nth r.panes 1).toNat, none⟩ = some (.slice av1 (nth p.opts (nth r.panes 1).toNat).length cv1)) ((refine keep _ ?_; first | exact Later.h _ | exact Below.drew (Later.h _) | exact Below.alloc (Later.h _) (Later.h _).size _ | exact Below.alloc (Below.drew (Later.h _)) (Below.drew (Later.h _)).size _ | exact Below.setCell (Below.alloc (Later.h _) (Later.h _).size _) (Later.h _).size _ | exact Below.setCell (Below.alloc (Below.drew (Later.h _)) (Below.drew (Later.h _)).size _) (Below.drew (Later.h _)).size _)) (fail)
  all_goals
    obtain ⟨W2, x2, e2, hb2, t1, b0⟩ := enter1d x1 (.int .i64 (nth p.opts (nth r.panes 1).toNat).length) 3
    rw [e2]; clear e2
    replace s1 := Later.sizes hb2 s1
    replace s2 := Later.sizes hb2 s2
    replace hb := Later.sizes hb2 hb
    replace hbo := Later.sizes hb2 hbo
    replace p1 := Later.cells hb2 p1
    replace q2 := Later.cells hb2 q2
    replace q6 := Later.cells hb2 q6
    replace c0 := Later.cells hb2 c0
    replace co0 := Later.cells hb2 co0
    replace HK := Lib.hid (HK.out.below hb2)
    cases hOK : (r.ok.length : Int) == ((nth p.opts (nth r.panes 0).toNat).length : Int)
    · go_wp2
      refine wp_region_later x2 (by kernel_rfl) (by kernel_rfl) ?_
      repeat (go_big_quiet_step (fail))
      refine wpQuiet_nil ?_
      rintro _ ⟨x2, rfl⟩
      go_wp2
      go_ret; exact ⟨ret_bool (ht.out.trans (hno.out (fun h => ne_beq hOK h.2.2.2.2.1))).symm, by obtain ⟨z, hz⟩ := x2.down hb2; exact hz ▸ z.down hb1⟩
    · cases hX : offB r.ok (nth p.opts (nth r.panes 1).toNat).length
      · go_wp2
        refine wp_region_later x2 (by kernel_rfl) (by kernel_rfl) ?_
        repeat (go_big_quiet_step ((go_at_call 140; exact phasOff _ _ _ _ _ HK.out b0)))
        refine wpQuiet_nil ?_
        rintro _ ⟨x2, rfl⟩
        rw [hX]
        go_wp2
        go_ret; exact ⟨ret_bool (ht.out.trans (hyes.out.2 ⟨hl'.out, ne_beqI hAB, hA, hB, eq_beq hOK, offB_get hX⟩)).symm, by obtain ⟨z, hz⟩ := x2.down hb2; exact hz ▸ z.down hb1⟩
      · go_wp2
        refine wp_region_later x2 (by kernel_rfl) (by kernel_rfl) ?_
        repeat (go_big_quiet_step ((go_at_call 140; exact phasOff _ _ _ _ _ HK.out b0)))
        refine wpQuiet_nil ?_
        rintro _ ⟨x2, rfl⟩
        rw [hX]
        go_wp2
        go_ret; exact ⟨ret_bool (ht.out.trans (hno.out (fun h => offB_not hX h.2.2.2.2.2))).symm, by obtain ⟨z, hz⟩ := x2.down hb2; exact hz ▸ z.down hb1⟩
end Go.Proofs.Ytmpkbolabdmkkaa

/- CONTRACT of places' check of a rule, whole. -/
namespace Go.Proofs.Ytmpkbolabdmkkaa
open Go.RowKit

set_option maxRecDepth 100000 in
set_option maxHeartbeats 2000000 in
theorem prule {W : World} (x : Later W) (v0 v1 v2 u2 u3 u6 : Value) (p : Prob) (r : Rl) (hp : IsProb W v0 v1 v2 p) (hr : IsRl W u2 u3 u6 r) (hlen : p.opts.length = p.panes.length) :
    Calls Try.prog 96 #[.agg #[v0, v1, v2], .agg #[.int .i64 r.item, .int .i64 r.kind, u2, u3, .int .i64 r.lo, .int .i64 r.hi, u6]] x.w (Ends W (.bool (ruleOK p r))) := by
  by_cases k2 : r.kind = 2
  case pos => exact prulePair x v0 v1 v2 u2 u3 u6 p r hp hr hlen k2
  replace k2 := Lib.hid k2
  replace hlen := Lib.hid hlen
  go_enter Try.func96, Try.ntmps96
  go_upto_region 1 with (fail)
  obtain ⟨W1, x1, e1, hb1, ⟨s1, s2⟩, ⟨p0, p1, p2⟩, q0, q1, q2, q3, q4, q5, q6⟩ := enter37 x v0 v1 v2 (.int .i64 r.item) (.int .i64 r.kind) u2 u3 (.int .i64 r.lo) (.int .i64 r.hi) u6 26 87
  rw [e1]; clear e1
  obtain ⟨ap, cp, rfl, lp, hpanes⟩ := (hp.panes.below hb1).opened
  obtain ⟨ao, co, rfl, lo, hopts⟩ := (hp.opts.below hb1).opened
  obtain ⟨aq, cq, rfl, lq, hq⟩ := (hr.panes.below hb1).opened
  obtain ⟨ah, ch, rfl, lh, hh⟩ := (hr.hits.below hb1).opened
  have HK := Lib.hid (hr.ok.below hb1)
  obtain ⟨ak, ck, rfl, lk, hk⟩ := (hr.ok.below hb1).opened
  clear hp hr
  by_cases k1 : r.kind = 1
  case pos =>
    have ht := Lib.hid (@ruleOK_cnt p r k1)
    rw [k1] at q1
    clear k1
    by_cases hl : r.hits.length = r.panes.length ∧ r.ok.length = 0
    case neg =>
      have hno := Lib.hid (@cntOK_no p r hl)
      replace hl := Lib.hid hl
      go_wp2
      · go_ret; exact ⟨ret_bool (ht.out.trans hno.out).symm, x1.down hb1⟩
      · exfalso; exact hl.out ⟨by omega, by omega⟩
      · go_ret; exact ⟨ret_bool (ht.out.trans hno.out).symm, x1.down hb1⟩
    have hyes := Lib.hid (@cntOK_yes p r hl)
    obtain ⟨hl1, hl2⟩ := hl
    have hl1' : (r.hits.length : Int) = r.panes.length := by omega
    replace hl1 := Lib.hid hl1
    go_wp2
    go_loopw [30] (fun i wr => ∃ k : Nat, k ≤ r.panes.length ∧ i = .int .i64 k ∧ (∃ y : Later W1, wr = y.w) ∧ (∀ i, i < k → wi (nth r.panes i) 0 ((p.panes.length : Int) - 1) = true ∧ (0 < i → nth r.panes (i - 1) < nth r.panes i) ∧ (nth r.hits i).length = (nth p.opts (nth r.panes i).toNat).length)) (fun i _ => r.panes.length - (intOf i).toNat)
    case atStart => exact ⟨0, Nat.zero_le _, rfl, ⟨x1, rfl⟩, by omega⟩
    case round =>
      obtain ⟨k, hk, rfl, ⟨x, rfl⟩, hno⟩ := hrel
      replace hno := Lib.hid hno
      by_cases hlt : k < r.panes.length
      · have hbad := Lib.hid (@cntOK_bad p r k hlt)
        have hkh : k < r.hits.length := by have := hl1.out; omega
        obtain ⟨b, o, rfl, hb, c0⟩ := hq.out k hlt
        obtain ⟨bh, oh, rfl, hbh, uh, ch0, hU⟩ := hh.out k hkh
        obtain ⟨au, cu, rfl, lu, _⟩ := hU.opened
        cases hA : wi (nth r.panes k) 0 ((p.panes.length : Int) - 1)
        · go_wp2
          refine wp_region_later x (by kernel_rfl) (by kernel_rfl) ?_
          repeat (go_big_quiet_step ((go_at_call 139; exact calls_same (pknown _ _ _ _ _ _ lp p0))))
          refine wpQuiet_nil ?_
          rintro _ ⟨x, rfl⟩
          go_wp2
          go_ret; exact ⟨ret_bool (ht.out.trans (hbad.out (.inl hA))).symm, x.down hb1⟩
        · have hA' := wi_iff.1 hA
          have hidx : (nth r.panes k).toNat < p.opts.length := by have := hlen.out; omega
          obtain ⟨bo, oo, rfl, hbo, uo, co0, hO⟩ := hopts.out (nth r.panes k).toNat hidx
          obtain ⟨av, cv, rfl, lv, _⟩ := hO.opened
          by_cases h2 : 0 < k
          · obtain ⟨_, _, he, _, d0⟩ := hq.out (k - 1) (by omega)
            cases he
            cases h3 : decide (nth r.panes k ≤ nth r.panes (k - 1))
            · go_wp2
              refine wp_region_later x (by kernel_rfl) (by kernel_rfl) ?_
              repeat (go_big_quiet_step ((go_at_call 139; exact calls_same (pknown _ _ _ _ _ _ lp p0))))
              refine wpQuiet_nil ?_
              rintro _ ⟨x, rfl⟩
              go_wp2
              · go_ret; exact ⟨ret_bool (ht.out.trans (hbad.out (.inr (.inr (ne_bne (by assumption)))))).symm, x.down hb1⟩
              · go_roundw
                case rel => exact ⟨k + 1, by omega, by go_num, ⟨x, rfl⟩, all_step hno.out ⟨hA, fun _ => by simpa using h3, eq_bne (by assumption)⟩⟩
                case measure => simp [intOf]; omega
            · go_wp2
              refine wp_region_later x (by kernel_rfl) (by kernel_rfl) ?_
              repeat (go_big_quiet_step ((go_at_call 139; exact calls_same (pknown _ _ _ _ _ _ lp p0))))
              refine wpQuiet_nil ?_
              rintro _ ⟨x, rfl⟩
              go_wp2
              go_ret; exact ⟨ret_bool (ht.out.trans (hbad.out (.inr (.inl ⟨h2, by simpa using h3⟩)))).symm, x.down hb1⟩
          · go_wp2
            refine wp_region_later x (by kernel_rfl) (by kernel_rfl) ?_
            repeat (go_big_quiet_step ((go_at_call 139; exact calls_same (pknown _ _ _ _ _ _ lp p0))))
            refine wpQuiet_nil ?_
            rintro _ ⟨x, rfl⟩
            go_wp2
            · go_ret; exact ⟨ret_bool (ht.out.trans (hbad.out (.inr (.inr (ne_bne (by assumption)))))).symm, x.down hb1⟩
            · go_roundw
              case rel => exact ⟨k + 1, by omega, by go_num, ⟨x, rfl⟩, all_step hno.out ⟨hA, fun h => absurd h h2, eq_bne (by assumption)⟩⟩
              case measure => simp [intOf]; omega
      · obtain rfl : k = r.panes.length := by omega
        go_wp2
        go_ret; exact ⟨ret_bool (ht.out.trans (hyes.out hno.out)).symm, x.down hb1⟩
  have ht := Lib.hid (@ruleOK_none p r k1 k2.out)
  have k2' := k2.out
  go_wp2
  go_ret; exact ⟨ret_bool ht.out.symm, x1.down hb1⟩
end Go.Proofs.Ytmpkbolabdmkkaa
