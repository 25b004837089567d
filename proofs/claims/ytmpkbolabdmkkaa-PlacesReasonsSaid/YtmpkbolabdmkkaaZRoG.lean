/- CONTRACT of the reference's reason. -/
import Derived.Test.YtmpkbolabdmkkaaZRoF
import Derived.Test.YtmpkbolabdmkkaaZRsn
import Derived.Test.YtmpkbolabdmkkaaZPlW
import Derived.Test.YtmpkbolabdmkkaaZPoB
namespace Go.Proofs.Ytmpkbolabdmkkaa
open Go.RowKit

theorem rsn_len (p : Prob) (of : List Int → Bool) : ∀ k, (rsnTo p of k).length ≤ k
  | 0 => Nat.le_refl _
  | k + 1 => by unfold rsnTo; have := rsn_len p of k; split <;> simp <;> omega
theorem rsn_lt (p : Prob) (of : List Int → Bool) : ∀ k x, x ∈ rsnTo p of k → x < 2 ^ (items p).length := fun k x h => by
  obtain ⟨r, _, _, rfl⟩ := (rsn_mem p of k).1 h
  exact vm_lt p _
theorem natL_snoc (L : List Nat) (m : Nat) : natL (L ++ [m]) = natL L ++ [(m : Int)] := by simp [natL]
/-- a row of marks: which numbers stand in a list -/
structure SeenAt (w : World) (b N : Nat) (L : List Nat) : Prop where
  lt : b < w.heap.size
  c : ∀ j, j < N → w.cell? ⟨b, j, none⟩ = some (.bool (decide (j ∈ L)))
  f : ∀ j, j < N → w.frozen? ⟨b, j, none⟩ = false
theorem SeenAt.of_block {w w' : World} {b N : Nat} {L : List Nat} (h : SeenAt w b N L) (hs : w.heap.size ≤ w'.heap.size) (he : w'.heap[b]? = w.heap[b]?) : SeenAt w' b N L :=
  ⟨Nat.lt_of_lt_of_le h.lt hs, fun j hj => (World.cell?_of_block (a := ⟨b, j, none⟩) he).trans (h.c j hj), fun j hj => (World.frozen?_of_block (a := ⟨b, j, none⟩) he).trans (h.f j hj)⟩
theorem SeenAt.below {w w' : World} {b N : Nat} {L : List Nat} (h : SeenAt w b N L) (hb : Below w.heap.size w w') : SeenAt w' b N L := h.of_block hb.size (hb.block b h.lt)
theorem SeenAt.new (w : World) (N : Nat) : SeenAt (w.alloc (.cells (Array.replicate N (Value.bool false)) 4)) w.heap.size N [] :=
  ⟨by simp, fun j hj => (World.cell?_alloc_at (Array.replicate N (Value.bool false)) 4 w.heap.size j rfl).trans (by simp [hj]), fun j hj => World.frozen?_alloc_at _ _ _ j (by simp)⟩
theorem SeenAt.set {w : World} {b N j : Nat} {L : List Nat} (h : SeenAt w b N L) (hj : j < N) : SeenAt (w.setCell ⟨b, j, none⟩ (.bool true)) b N (L ++ [j]) :=
  ⟨by have := h.lt; simp only [World.setCell]; split <;> simpa using this, fun i hi => by
    by_cases hij : i = j
    · subst hij
      rw [World.cell?_setCell_same _ _ _ (h.c i hi)]; simp
    · rw [World.cell?_setCell_other _ _ _ _ (fun e => by cases e; exact hij rfl), h.c i hi]; simp [hij], fun i hi => (frozen_set _ _ _ _).trans (h.f i hi)⟩
theorem drew_below (w : World) : Below w.heap.size w w.drew := Below.drew (Below.refl _ _)
theorem grown_set (w : World) (a : Addr) (u : Value) : w.grownBy (w.setCell a u) (some a.block) :=
  ⟨rfl, rfl, rfl, by simp [World.setCell], fun k _ hk => Below.heap_setCell w a u k (fun e => hk (by rw [e]))⟩
theorem region_cut2 {P : Program} {c : Code} {Q : Exit → Act → World → Prop} {a : Act} {w : World} (Post : Option Addr → Nat → World → Prop) (F : Option Addr → Nat → Act) (h1 : (∀ A c w', Post A c w' → Q .normal (F A c) w') → c.wp P Q a w) (h2 : ∀ A c w', Post A c w' → Q .normal (F A c) w') : c.wp P Q a w := h1 h2

set_option maxRecDepth 100000 in
set_option maxHeartbeats 4000000 in
theorem rreason {W : World} (x : Later W) (v0 v1 v2 : Value) (p : Prob) (pane o : Int) (of : List Int → Bool) (hp : IsProb W v0 v1 v2 p) (hv : validP p = true) (ht : total p ≤ 65536) (hpl : pane < p.opts.length)
    (hof : ∀ k, k < total p → of (fill p k) = (decide (pane < 0) || nth (fill p k) pane.toNat == o)) :
    Calls Try.prog 83 #[.agg #[v0, v1, v2], .int .i64 pane, .int .i64 o] x.w (EndsHit W ((leastO p of).getD []) (leastO p of).isSome) := by
  have hleast := Lib.hid (rsn_least hv of)
  have HV := Lib.hid hv
  have h16 := (validP_iff.1 hv).2.2.2
  have HF := Lib.hid (fun k => fill_ok hv k)
  have HB := Lib.hid (fun k => fill_B hv k)
  have HM := Lib.hid (fun k => bits_vm hv (fill p k))
  clear hv
  obtain ⟨N, hN⟩ : ∃ N, N = 2 ^ (items p).length := ⟨_, rfl⟩
  have hpow : (2 : Int) ^ (items p).length = (N : Int) := by rw [hN]; simp
  have hN2 : N ≤ 65536 := hN ▸ Nat.pow_le_pow_right (show 0 < 2 by decide) h16
  have hvm := Lib.hid (fun k => (hN ▸ vm_lt p (fill p k) : vm p (fill p k) < N))
  have hLN := Lib.hid (fun k x h => (hN ▸ rsn_lt p of k x h : x < N))
  rw [← hN] at hleast
  replace hN := Lib.hid hN
  have hmk := makeBools_block N hN2
  go_enter Try.func83, Try.ntmps83
  go_upto_region 1 with (fail)
  obtain ⟨W1, x1, e1, hb1, s1, p0, p1, p2⟩ := enter3 x v0 v1 v2 26
  rw [e1]; clear e1
  have HP := Lib.hid (hp.below hb1)
  obtain ⟨ap, cp, rfl, lp, _⟩ := hp.panes.opened
  obtain ⟨ao, co, rfl, lo, _⟩ := hp.opts.opened
  obtain ⟨ar, cr, rfl, lr, _⟩ := hp.rules.opened
  clear hp
  go_upto_region 3 with (first | (go_at_call 26; refine (rItems x1 _ _ _ p HP.out).mono ?_; rintro e w' ⟨vi, rfl, y1, rfl, hI⟩; have HI1 := Lib.hid hI; obtain ⟨ai, ci, rfl, li, hx1⟩ := hI.opened; clear hI hx1) | (go_at_call 125; refine (rall (Later.now y1.w) _ _ _ p (HP.out.below y1.h) HV.out ht).mono ?_; rintro e w' ⟨vl, rfl, y2, rfl, hl⟩; have HL := Lib.hid hl.is; obtain ⟨al, cl, rfl, ll, hx1⟩ := hl.is.opened; clear hl hx1))
  have hb2 : Below W1.heap.size W1 y2.w := below_then y1.h y2
  have HI := Lib.hid (HI1.out.below y2.h)
  clear HI1
  obtain ⟨W2, hW2⟩ : ∃ W2, y2.w = W2 := ⟨_, rfl⟩
  rw [hW2] at hb2 HI HL
  rw [hW2]
  clear hW2 y2 y1
  replace p0 := Later.cells hb2 p0
  replace p1 := Later.cells hb2 p1
  replace p2 := Later.cells hb2 p2
  replace s1 := Later.sizes hb2 s1
  replace HP := Lib.hid (HP.out.below hb2)
  obtain ⟨_, _, hqq, _, hll⟩ := HL.out.opened
  cases hqq
  have hnl := Lib.hid (fills_len p)
  have hnk : (fills p).length ≤ 65536 := by have := hnl.out; omega
  have hseen := Lib.hid (SeenAt.new W2 N)
  obtain ⟨z0, hz0⟩ := (Later.now W2).alloc (.cells (Array.replicate N (Value.bool false)) 4)
  change W2.alloc _ = z0.w at hz0
  rw [hz0] at hseen
  obtain ⟨bs, hbs⟩ : ∃ bs, W2.heap.size = bs := ⟨_, rfl⟩
  rw [hbs] at hseen
  go_upto_region 5 with (fail)
  clear hmk
  clear hz0
  have hbs2 : Hid (W2.heap.size ≤ bs) := Lib.hid (by omega)
  replace hbs := Lib.hid hbs
  go_wp2
  go_loopw [11, 12] (fun v i wr => ∃ k : Nat, k ≤ (fills p).length ∧ i = .int .i64 k ∧ ∃ z : Later W2, wr = z.w ∧ SeenAt z.w bs N (rsnTo p of k) ∧ z.w.ownsRow (bs + 1) 3 1 v (rsnTo p of k).length ((natL (rsnTo p of k)).map (Value.int .i64))) (fun _ i _ => (fills p).length - (intOf i).toNat)
  case atStart => exact ⟨0, Nat.zero_le _, rfl, z0, rfl, hseen.out, World.ownsRow_nil _ _ _ _⟩
  case round =>
    clear hseen z0
    obtain ⟨k, hk, rfl, x, rfl, hseen, hown⟩ := hrel
    replace hseen := Lib.hid hseen
    have hrl := rsn_len p of k
    obtain ⟨al2, cl2, rfl⟩ := owns_slice hown
    by_cases hlt : k < (fills p).length
    · have hlt2 : k < total p := by have := hnl.out; omega
      obtain ⟨b, ob, rfl, hb, u, c0, hu⟩ := hll.out k hlt
      rw [nth_fills hlt2] at hu
      have HU := Lib.hid hu
      obtain ⟨au, cu, rfl, _, hu'⟩ := hu.opened
      clear hu
      have hofk := hof k hlt2
      have hvmk := hvm.out k
      have hMk := Lib.hid (HM.out k)
      have hfl := Lib.hid (fill_len p k)
      have hfo := Lib.hid (HF.out k)
      have hfB := Lib.hid (HB.out k)
      have HS : Hid (rsnTo p of (k + 1) = if useB p of (fill p k) = true ∧ vm p (fill p k) ∉ rsnTo p of k then rsnTo p of k ++ [vm p (fill p k)] else rsnTo p of k) := Lib.hid rfl
      have hLNk := Lib.hid (hLN.out k)
      obtain ⟨F, hF⟩ : ∃ F, fill p k = F := ⟨_, rfl⟩
      rw [hF] at HU hu' hofk hvmk hMk hfl hfo hfB HS c0
      clear hF
      obtain ⟨L, hL⟩ : ∃ L, rsnTo p of k = L := ⟨_, rfl⟩
      rw [hL] at HS hLNk hseen hown hrl ⊢
      clear hL
      have hC := Lib.hid (fun z : Later x.w => rsound z _ _ _ _ p F (HP.out.below x.h) (HU.out.below x.h) hfl.out hfo.out)
      have hnoF : Hid (useB p of F = false → rsnTo p of (k + 1) = L) := Lib.hid (fun h => by rw [HS.out, if_neg (by simp [h])])
      have hrel0 : Hid (∀ y : Later W2, Below x.w.heap.size x.w y.w → useB p of F = false → SeenAt y.w bs N (rsnTo p of (k + 1)) ∧ y.w.ownsRow (bs + 1) 3 1 (.slice al2 L.length cl2) (rsnTo p of (k + 1)).length ((natL (rsnTo p of (k + 1))).map (Value.int .i64))) := Lib.hid (fun y hy h => by rw [hnoF.out h]; exact ⟨hseen.out.below hy, owns_later hown hy⟩)
      replace hown := Lib.hid hown
      cases hS : soundB p F
      · have hno : Hid (useB p of F = false) := Lib.hid (by simp [useB, hS])
        rw [hS] at hC
        go_wp2
        refine wp_region_since x (by kernel_rfl) (by kernel_rfl) ?_
        repeat (go_big_quiet_step ((go_at_call 93; exact calls_since hC.out)))
        refine wpQuiet_nil ?_
        rintro _ ⟨⟨y, hy⟩, rfl⟩
        go_wp2
        go_roundw
        case rel => exact ⟨k + 1, by omega, by go_num, y, rfl, hrel0.out y hy hno.out⟩
        case measure => simp [intOf]; omega
      have hcase : (decide (0 ≤ pane) = false ∧ useB p of F = true) ∨ ((decide (0 ≤ pane) = true ∧ 0 ≤ pane ∧ pane.toNat < F.length) ∧ (nth F pane.toNat == o) = useB p of F) := by
        have hfl' := hfl.out
        by_cases h0 : 0 ≤ pane
        · refine .inr ⟨⟨by simpa using h0, h0, by omega⟩, ?_⟩
          unfold useB; rw [hS, hofk, decide_eq_false (by omega)]; simp
        · refine .inl ⟨by simpa using h0, ?_⟩
          unfold useB; rw [hS, hofk, decide_eq_true (by omega)]; simp
      rw [hS] at hC
      have hc100 := Lib.hid (fun y : Later x.w => rviolates (Later.now y.w.drew) _ _ _ _ p F ((HP.out.below x.h).below (y.h.trans ((drew_below _).mono y.h.size))) ((HU.out.below x.h).below (y.h.trans ((drew_below _).mono y.h.size))) HV.out hfB.out)
      have hc131 := Lib.hid (fun (y : Later x.w) (q : Later y.w.drew) (v : Value) (hv' : IsInts q.w v (violL p F)) => rbitsOf (Later.now q.w) _ v (items p) (violL p F) ((HI.out.below x.h).below ((y.h.trans ((drew_below _).mono y.h.size)).trans (q.h.mono (Nat.le_trans y.h.size (drew_below _).size)))) hv' h16)
      rw [hMk.out] at hc131
      have hyes : Hid (useB p of F = true → decide (vm p F ∈ L) = false → rsnTo p of (k + 1) = L ++ [vm p F]) := Lib.hid (fun h h2 => by rw [HS.out, if_pos ⟨h, by simpa using h2⟩])
      have hold : Hid (decide (vm p F ∈ L) = true → rsnTo p of (k + 1) = L) := Lib.hid (fun h2 => by rw [HS.out, if_neg (by simp only [decide_eq_true_iff] at h2; exact fun h => h.2 h2)])
      obtain ⟨m, hm⟩ : ∃ m, vm p F = m := ⟨_, rfl⟩
      rw [hm] at hvmk hc131 hyes hold
      clear hm hMk HS hofk hfl hfo
      rcases hcase with ⟨h1, hU⟩ | ⟨⟨h1, h2, h3⟩, hA⟩
      · skip
        replace hU := Lib.hid hU
        clear hu'
        go_wp2
        refine wp_region_since x (by kernel_rfl) (by kernel_rfl) ?_
        repeat (go_big_quiet_step ((go_at_call 93; exact calls_since hC.out)))
        refine wpQuiet_nil ?_
        rintro _ ⟨⟨y, hy⟩, rfl⟩
        go_upto_region 9 with (fail)
        refine region_cut2 (fun _ _ w' => ∃ z : Later W2, w' = z.w ∧ Below x.w.heap.size x.w z.w) ?F1 ?paths1 ?cont1
        case' paths1 =>
          intro hcont
          have g100 := Lib.hid (hc100.out ⟨y.w, hy⟩)
          have g131 := Lib.hid (hc131.out ⟨y.w, hy⟩)
          have hyd : Hid (∀ q : Later y.w.drew, Below x.w.heap.size x.w q.w) := Lib.hid (fun q => hy.trans (((drew_below _).mono hy.size).trans (q.h.mono (Nat.le_trans hy.size (drew_below _).size))))
          go_region_law (first | (have hx := q1.h; clear hx; go_simp; go_at_call 131; refine (g131.out q1 _ hI9.out).mono ?_; rintro e w' ⟨rfl, q2, rfl⟩) | (go_simp; go_at_call 100; refine g100.out.mono ?_; rintro e w' ⟨v9, rfl, q1, rfl, hI⟩; have hI9 := Lib.hid hI; obtain ⟨A9, c9, rfl, hx1, hx2⟩ := hI; clear hx1 hx2))
          all_goals go_simp
          all_goals exact hcont A9 c9 _ ⟨⟨(q1.up q2).w, x.h.trans ((hyd.out (q1.up q2)).mono x.h.size)⟩, rfl, hyd.out (q1.up q2)⟩
        case' cont1 =>
          rintro A9 c9 w' ⟨z, rfl, hz⟩
          have hs := hseen.out.below hz
          have e0 := hs.c m hvmk
          have e1 := hs.f m hvmk
          have e2 := hs.lt
          have ho := owns_later hown.out hz
          cases hD : decide (m ∈ L)
          case' true =>
            rw [hD] at e0
            replace ho := Lib.hid ho
            go_wp2
            go_roundw
            case rel => exact ⟨k + 1, by omega, by go_num, z, rfl, by rw [hold.out hD]; exact hs, by rw [hold.out hD]; exact ho.out⟩
            case measure => simp [intOf]; omega
          case' false =>
            rw [hD] at e0
            have hg1 := grown_set z.w ⟨bs, m, none⟩ (.bool true)
            have hs1 := hs.set hvmk
            have hlt9 : ∀ g, (Value.slice al2 L.length cl2).ownBlock = some g → bs + 1 ≤ g ∧ g < z.w.heap.size := fun g hg => ho.lt g hg
            have hne9 : (Value.slice al2 L.length cl2).ownBlock ≠ some bs := fun e => by have := (hlt9 bs e).1; omega
            replace ho := ho.kept hg1 (.inr hne9)
            obtain ⟨z1, hz1⟩ := (⟨⟨_, z.h.setCell (p := ⟨bs, m, none⟩) hbs2.out _⟩, rfl⟩ : ∃ y : Later W2, z.w.setCell ⟨bs, m, none⟩ (.bool true) = y.w)
            rw [hz1] at ho hs1
            have hs2 := Lib.hid (hs1.below (below_alloc1 z1.w (.cells #[.int .i64 m] 3)))
            have ho2 := Lib.hid (owns_later ho (below_alloc1 z1.w (.cells #[.int .i64 m] 3)))
            obtain ⟨zA, hzA⟩ := z1.alloc (.cells #[.int .i64 m] 3)
            have hzs : bs + 1 ≤ (z1.w.alloc (.cells #[.int .i64 m] 3)).heap.size := by have := hs2.out.lt; omega
            replace hzA := Lib.hid hzA
            replace hzs := Lib.hid hzs
            clear hs hs1 ho hg1 hlt9 hne9
            go_wp2_with (at_builtin; refine wpList_appX rfl _ _ 22 rfl 3 _ 1 8 Try.info3 rfl (by decide) Try.underlying22 _ L.length ((natL L).map (Value.int .i64)) (bs + 1) ho2.out hzs.out ⟨z1.w.heap.size, 0, none⟩ 1 1 [.int .i64 m] rfl (by rfl) (by rfl) (cell_one_new _ _ _) (by simp [Value.oneCell']) (by omega) (by omega) ?_; intro v' w' ho3 hg3 h53; obtain ⟨A9', c9', rfl⟩ := owns_slice ho3)
            have hne3 : some bs ≠ (Value.slice al2 L.length cl2).ownBlock := fun e => by have := (ho2.out.lt bs e.symm).1; omega
            have hs4 := hs2.out.of_block hg3.size (hg3.block bs hs2.out.lt hne3)
            rw [hzA.out] at hg3
            obtain ⟨z3, rfl⟩ := zA.grown hg3 (fun g hg => by have := (ho2.out.lt g hg).1; have := hbs2.out; omega)
            have hfin := hyes.out hU.out hD
            replace ho3 := Lib.hid ho3
            replace hs4 := Lib.hid hs4
            replace hfin := Lib.hid hfin
            go_roundw
            case rel => exact ⟨k + 1, by omega, by go_num, z3, rfl, by rw [hfin.out]; exact hs4.out, by rw [hfin.out, natL_snoc, List.map_append, List.length_append]; exact ho3.out⟩
            case measure => simp [intOf]; omega
      · obtain ⟨b2, o2, rfl, hb2', d0⟩ := hu'.out _ h3
        cases hU : useB p of F
        · rw [hU] at hA
          replace hU := Lib.hid hU
          go_wp2
          refine wp_region_since x (by kernel_rfl) (by kernel_rfl) ?_
          repeat (go_big_quiet_step ((go_at_call 93; exact calls_since hC.out)))
          refine wpQuiet_nil ?_
          rintro _ ⟨⟨y, hy⟩, rfl⟩
          go_wp2
          go_roundw
          case rel => exact ⟨k + 1, by omega, by go_num, y, rfl, hrel0.out y hy hU.out⟩
          case measure => simp [intOf]; omega
        rw [hU] at hA
        replace hU := Lib.hid hU
        clear hu'
        go_wp2
        refine wp_region_since x (by kernel_rfl) (by kernel_rfl) ?_
        repeat (go_big_quiet_step ((go_at_call 93; exact calls_since hC.out)))
        refine wpQuiet_nil ?_
        rintro _ ⟨⟨y, hy⟩, rfl⟩
        go_upto_region 9 with (fail)
        refine region_cut2 (fun _ _ w' => ∃ z : Later W2, w' = z.w ∧ Below x.w.heap.size x.w z.w) ?F2 ?paths2 ?cont2
        case' paths2 =>
          intro hcont
          have g100 := Lib.hid (hc100.out ⟨y.w, hy⟩)
          have g131 := Lib.hid (hc131.out ⟨y.w, hy⟩)
          have hyd : Hid (∀ q : Later y.w.drew, Below x.w.heap.size x.w q.w) := Lib.hid (fun q => hy.trans (((drew_below _).mono hy.size).trans (q.h.mono (Nat.le_trans hy.size (drew_below _).size))))
          go_region_law (first | (have hx := q1.h; clear hx; go_simp; go_at_call 131; refine (g131.out q1 _ hI9.out).mono ?_; rintro e w' ⟨rfl, q2, rfl⟩) | (go_simp; go_at_call 100; refine g100.out.mono ?_; rintro e w' ⟨v9, rfl, q1, rfl, hI⟩; have hI9 := Lib.hid hI; obtain ⟨A9, c9, rfl, hx1, hx2⟩ := hI; clear hx1 hx2))
          all_goals go_simp
          all_goals exact hcont A9 c9 _ ⟨⟨(q1.up q2).w, x.h.trans ((hyd.out (q1.up q2)).mono x.h.size)⟩, rfl, hyd.out (q1.up q2)⟩
        case' cont2 =>
          rintro A9 c9 w' ⟨z, rfl, hz⟩
          have hs := hseen.out.below hz
          have e0 := hs.c m hvmk
          have e1 := hs.f m hvmk
          have e2 := hs.lt
          have ho := owns_later hown.out hz
          cases hD : decide (m ∈ L)
          case' true =>
            rw [hD] at e0
            replace ho := Lib.hid ho
            go_wp2
            go_roundw
            case rel => exact ⟨k + 1, by omega, by go_num, z, rfl, by rw [hold.out hD]; exact hs, by rw [hold.out hD]; exact ho.out⟩
            case measure => simp [intOf]; omega
          case' false =>
            rw [hD] at e0
            have hg1 := grown_set z.w ⟨bs, m, none⟩ (.bool true)
            have hs1 := hs.set hvmk
            have hlt9 : ∀ g, (Value.slice al2 L.length cl2).ownBlock = some g → bs + 1 ≤ g ∧ g < z.w.heap.size := fun g hg => ho.lt g hg
            have hne9 : (Value.slice al2 L.length cl2).ownBlock ≠ some bs := fun e => by have := (hlt9 bs e).1; omega
            replace ho := ho.kept hg1 (.inr hne9)
            obtain ⟨z1, hz1⟩ := (⟨⟨_, z.h.setCell (p := ⟨bs, m, none⟩) hbs2.out _⟩, rfl⟩ : ∃ y : Later W2, z.w.setCell ⟨bs, m, none⟩ (.bool true) = y.w)
            rw [hz1] at ho hs1
            have hs2 := Lib.hid (hs1.below (below_alloc1 z1.w (.cells #[.int .i64 m] 3)))
            have ho2 := Lib.hid (owns_later ho (below_alloc1 z1.w (.cells #[.int .i64 m] 3)))
            obtain ⟨zA, hzA⟩ := z1.alloc (.cells #[.int .i64 m] 3)
            have hzs : bs + 1 ≤ (z1.w.alloc (.cells #[.int .i64 m] 3)).heap.size := by have := hs2.out.lt; omega
            replace hzA := Lib.hid hzA
            replace hzs := Lib.hid hzs
            clear hs hs1 ho hg1 hlt9 hne9
            go_wp2_with (at_builtin; refine wpList_appX rfl _ _ 22 rfl 3 _ 1 8 Try.info3 rfl (by decide) Try.underlying22 _ L.length ((natL L).map (Value.int .i64)) (bs + 1) ho2.out hzs.out ⟨z1.w.heap.size, 0, none⟩ 1 1 [.int .i64 m] rfl (by rfl) (by rfl) (cell_one_new _ _ _) (by simp [Value.oneCell']) (by omega) (by omega) ?_; intro v' w' ho3 hg3 h53; obtain ⟨A9', c9', rfl⟩ := owns_slice ho3)
            have hne3 : some bs ≠ (Value.slice al2 L.length cl2).ownBlock := fun e => by have := (ho2.out.lt bs e.symm).1; omega
            have hs4 := hs2.out.of_block hg3.size (hg3.block bs hs2.out.lt hne3)
            rw [hzA.out] at hg3
            obtain ⟨z3, rfl⟩ := zA.grown hg3 (fun g hg => by have := (ho2.out.lt g hg).1; have := hbs2.out; omega)
            have hfin := hyes.out hU.out hD
            replace ho3 := Lib.hid ho3
            replace hs4 := Lib.hid hs4
            replace hfin := Lib.hid hfin
            go_roundw
            case rel => exact ⟨k + 1, by omega, by go_num, z3, rfl, by rw [hfin.out]; exact hs4.out, by rw [hfin.out, natL_snoc, List.map_append, List.length_append]; exact ho3.out⟩
            case measure => simp [intOf]; omega
    · obtain rfl : k = (fills p).length := by omega
      rw [hnl.out] at hown
      have hLr := hLN.out (total p)
      have hIn : ∀ n, n = (natL (rsnTo p of (total p))).length → x.w.ownsRow (bs + 1) 3 1 (.slice al2 n cl2) n ((natL (rsnTo p of (total p))).map (Value.int .i64)) → IsInts x.w (.slice al2 n cl2) (natL (rsnTo p of (total p))) := by
        rintro n rfl h
        exact isInts_of_owns h (by rw [natL_len]; have := rsn_len p of (total p); omega)
      have hInts := hIn _ (natL_len _).symm hown
      clear hIn
      have hq := Lib.hid (rhitting (Later.now x.w) _ _ (items p) (rsnTo p of (total p)) (HI.out.below x.h) hInts h16 (fun j hj => Nat.lt_of_lt_of_le (hLr _ (nth_mem hj)) hN2))
      rw [hnl.out]
      clear hown hInts hLr hseen
      have e16 : 2 ^ (items p).length = N := hN.out.symm
      rw [e16] at hq
      rw [show rsnTo p of (total p) = rsnL p of from rfl, hleast.out] at hq
      clear e16
      go_wp2_with (go_at_call 132; refine hq.out.mono ?_; rintro e w' ⟨v, rfl, y, rfl, hI⟩; have hI2 := Lib.hid hI; obtain ⟨A9, c9, rfl, hx1, hx2⟩ := hI; clear hx1 hx2)
      go_ret2
      obtain ⟨z, hz⟩ := (x.up y).down (hb1.trans (hb2.mono hb1.size))
      exact ⟨_, rfl, z, hz, hz ▸ hI2.out⟩
end Go.Proofs.Ytmpkbolabdmkkaa
