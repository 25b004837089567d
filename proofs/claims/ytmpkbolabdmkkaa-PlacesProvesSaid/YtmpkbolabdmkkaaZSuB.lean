/- CONTRACT of places' broken. -/
import Derived.Test.YtmpkbolabdmkkaaZSuA
import Derived.Test.YtmpkbolabdmkkaaZk
import Derived.Test.YtmpkbolabdmkkaaZm
namespace Go.Proofs.Ytmpkbolabdmkkaa
open Go.RowKit

theorem rngLo_N {p : Prob} {f : List Int} {i : Nat} (h0 : i < f.length → 0 ≤ nth f i ∧ nth f i < (nth p.opts i).length) : rngLo f i = (loN f i : Int) := by
  unfold rngLo loN; split
  · have := h0 (by assumption); omega
  · rfl
theorem rngHi_N {p : Prob} {f : List Int} {i : Nat} (h0 : i < f.length → 0 ≤ nth f i ∧ nth f i < (nth p.opts i).length) : rngHi p f i = (hiN p f i : Int) := by
  unfold rngHi hiN; split
  · have := h0 (by assumption); omega
  · rfl
/-! capacities -/
def SlCap (v : Value) : Prop := ∀ a n c, v = .slice a n c → n ≤ c
structure TabCap (w : World) (v : Value) : Prop where
  own : SlCap v
  rows : ∀ b o n c i u, v = .slice (some ⟨b, o, none⟩) n c → i < n → w.cell? ⟨b, o + i, none⟩ = some u → SlCap u
theorem TabCap.below {w w' : World} {v : Value} {t : List (List Bool)} (h : TabCap w v) (ht : IsBoolss w v t) (hb : Below w.heap.size w w') : TabCap w' v :=
  ⟨h.own, fun b o n c i u hv hi hc => by
    obtain ⟨a, c', he, hl, hx⟩ := ht
    rw [hv] at he
    injection he with h1 h2 h3
    subst h2
    obtain ⟨b', o', hab, hlt, _⟩ := hx i hi
    rw [← h1] at hab
    cases hab
    exact h.rows _ _ _ _ i u hv hi ((hb.cell (p := ⟨b, o + i, none⟩) hlt).symm.trans hc)⟩
theorem rng_lt {p : Prob} {f : List Int} {i : Nat} (h1 : 1 ≤ (nth p.opts i).length) : loN f i < hiN p f i := by
  unfold loN hiN
  by_cases hi : i < f.length
  · rw [if_pos hi, if_pos hi]; omega
  · rw [if_neg hi, if_neg hi]; omega
theorem addr_add (b o j : Nat) : (⟨b, o, none⟩ : Addr).add j = ⟨b, o + j, none⟩ := by unfold Addr.add; by_cases h0 : j = 0 <;> simp [h0]
theorem IsBools.sub {w : World} {A : Option Addr} {n c : Nat} {l : List Bool} (h : IsBools w (.slice A n c) l) {a d : Nat} (hd : d ≤ l.length) (c' : Nat) : IsBools w (.slice (A.map fun x => x.add a) (d - a) c') (subB l a d) := by
  obtain ⟨a', c0, he, hl, hx⟩ := h
  injection he with h1 h2 h3
  subst h1 h2
  refine ⟨_, c', by rw [subB_len hd], by rw [subB_len hd]; omega, fun i hi => ?_⟩
  rw [subB_len hd] at hi
  obtain ⟨b', o', e, hlt, hc⟩ := hx (a + i) (by omega)
  refine ⟨b', o' + a, by rw [e, Option.map_some, addr_add], hlt, ?_⟩
  rw [nth_subB hd hi, ← hc, Nat.add_assoc]

set_option maxRecDepth 100000 in
set_option maxHeartbeats 2000000 in
theorem pbroken {W : World} (x : Later W) (v0 v1 v2 u2 u3 u6 vf : Value) (p : Prob) (r : Rl) (f : List Int) (hp : IsProb W v0 v1 v2 p) (hr : IsRl W u2 u3 u6 r) (hf : IsInts W vf f) (hlen : p.opts.length = p.panes.length) (hro : ruleOK p r = true) (h300 : ∀ i, i < p.opts.length → 1 ≤ (nth p.opts i).length ∧ (nth p.opts i).length ≤ 300)
    (hc3 : TabCap W u3) (hc6 : TabCap W u6) (hfill : ∀ i, i < f.length → 0 ≤ nth f i ∧ nth f i < (nth p.opts i).length) :
    Calls Try.prog 150 #[.agg #[v0, v1, v2], .agg #[.int .i64 r.item, .int .i64 r.kind, u2, u3, .int .i64 r.lo, .int .i64 r.hi, u6], vf] x.w (Ends W (.bool (brokenB r f))) := by
  obtain ⟨aq, cq, rfl, lq, hqx⟩ := hr.panes.opened
  obtain ⟨ah, ch, rfl, lh, _⟩ := hr.hits.opened
  obtain ⟨ak, ck, rfl, lk, _⟩ := hr.ok.opened
  obtain ⟨af, cf, rfl, lf, _⟩ := hf.opened
  clear hqx
  have HC3 := Lib.hid hc3
  have HC6 := Lib.hid hc6
  have hck := hc6.own _ _ _ rfl
  have HH0 := Lib.hid hr.hits
  have HK0 := Lib.hid hr.ok
  clear hc3 hc6
  have hmf : ∀ (fn : Fn) (first cap : Array Value) (w : World), (Instr.makeFunc fn first cap).run Try.prog w = .ok (.func fn first cap) w := fun _ _ _ _ => rfl
  go_enter Try.func150, Try.ntmps150
  go_upto_region 1 with (fail)
  obtain ⟨W1, x1, e1, hb1, ⟨s1, s2⟩, ⟨p0, p1, p2⟩, q0, q1, q2, q3, q4, q5, q6⟩ := enter37 x v0 v1 v2 (.int .i64 r.item) (.int .i64 r.kind) (.slice aq r.panes.length cq) (.slice ah r.hits.length ch) (.int .i64 r.lo) (.int .i64 r.hi) (.slice ak r.ok.length ck) 26 87
  have hz1 : x1.w.heap.size = x.w.heap.size + 1 + 1 := by rw [← e1]; simp
  rw [e1]; clear e1
  obtain ⟨b3, hB3⟩ : ∃ b, x.w.heap.size = b := ⟨_, rfl⟩
  rw [hB3] at s1 s2 p0 p1 p2 q0 q1 q2 q3 q4 q5 q6 hz1 ⊢
  obtain ⟨b5, hB5⟩ : ∃ b, x1.w.heap.size = b := ⟨_, rfl⟩
  obtain ⟨b4, hB4⟩ : ∃ b, b3 + 1 = b := ⟨_, rfl⟩
  rw [hB4] at s2 q0 q1 q2 q3 q4 q5 q6 hz1 ⊢
  obtain ⟨W2, hW2⟩ : ∃ V, x1.w.alloc (.cells #[.slice af f.length cf] 22) = V := ⟨_, rfl⟩
  have hx2 : Below x1.w.heap.size x1.w W2 := hW2 ▸ below_alloc1 _ _
  have n5 : b5 < W2.heap.size := by rw [← hW2, ← hB5]; simp
  have c5 : ∀ y : Later W2, y.w.cell? ⟨b5, 0, none⟩ = some (.slice af f.length cf) := Later.cell n5 (by rw [← hW2, ← hB5]; exact World.cell?_alloc_at _ _ _ 0 rfl)
  have s5 : ∀ y : Later W2, b5 < y.w.heap.size := Later.size n5
  have hb2 : Below W1.heap.size W1 W2 := x1.h.trans (hx2.mono x1.h.size)
  rw [hW2, show b4 + 1 = b5 by omega]
  have HP := Lib.hid ((hp.below hb1).below hb2)
  have HR := Lib.hid ((hr.below hb1).below hb2)
  have HF := Lib.hid ((hf.below hb1).below hb2)
  replace p0 := Later.cells hb2 p0
  replace p1 := Later.cells hb2 p1
  replace p2 := Later.cells hb2 p2
  replace q0 := Later.cells hb2 q0
  replace q1 := Later.cells hb2 q1
  replace q2 := Later.cells hb2 q2
  replace q3 := Later.cells hb2 q3
  replace q4 := Later.cells hb2 q4
  replace q5 := Later.cells hb2 q5
  replace q6 := Later.cells hb2 q6
  replace s1 := Later.sizes hb2 s1
  replace s2 := Later.sizes hb2 s2
  replace HC3 := Lib.hid ((HC3.out.below HH0.out hb1).below (HH0.out.below hb1) hb2)
  replace HC6 := Lib.hid ((HC6.out.below HK0.out hb1).below (HK0.out.below hb1) hb2)
  have hbw : Below W.heap.size W W2 := hb1.trans (hb2.mono hb1.size)
  have hend : Hid (∀ (y : Later W2) (b : Bool), brokenB r f = b → Ends W (.bool (brokenB r f)) (.returned (.bool b)) y.w) := Lib.hid (fun y b h => ⟨by rw [h], ⟨y.w, below_then hbw y⟩, rfl⟩)
  have hsome := Lib.hid (fun (i : Nat) (hi : i < p.opts.length) (y : Later W2) => (by have h := psome y v0 v1 v2 _ p f i b5 b3 HP.out HF.out hfill (fun i hi => (h300 i hi).2) hi c5 p1; rwa [rngLo_N (p := p) (hfill i), rngHi_N (p := p) (hfill i)] at h : Calls Try.prog 167 #[.int .i64 i, .pointer (some ⟨b5, 0, none⟩), .pointer (some ⟨b3, 0, none⟩)] y.w (Ends W2 (.tuple #[.int .i64 (loN f i), .int .i64 (hiN p f i)]))))
  obtain ⟨ao, co, hve, lo, hopts⟩ := HP.out.opts.opened
  obtain ⟨ap, cp, hve0, lp, _⟩ := HP.out.panes.opened
  obtain ⟨ar, cr, hve2, lr, _⟩ := HP.out.rules.opened
  subst hve hve0 hve2
  clear hW2 hB5 hB4 hz1 hx2 n5 hb2 hb1 hp hr hf x1 hopts
  obtain ⟨_, _, hqq, _, hq⟩ := HR.out.panes.opened
  cases hqq
  show Code.wp _ _ _ _ (Later.now W2).w
  generalize Later.now W2 = x1
  replace hlen := Lib.hid hlen
  rcases ruleOK_iff.1 hro with ⟨hk, hc⟩ | ⟨hk, hc⟩
  · obtain ⟨h1, hx0, h3⟩ := cnt_at hc
    clear hx0
    have hk' : (r.kind == 2) = false := by simp [hk]
    have hbr : Hid (brokenB r f = decide (min (mostL r f r.panes.length) r.hi < max (leastL r f r.panes.length) r.lo)) := Lib.hid (by unfold brokenB; rw [if_neg (by omega)])
    replace hk := Lib.hid hk
    replace h1 := Lib.hid h1
    replace h3 := Lib.hid h3
    obtain ⟨_, _, hqq, _, hhx⟩ := HR.out.hits.opened
    cases hqq
    go_wp2
    go_loopw [14, 15, 61] (fun lv mv i wr => ∃ k : Nat, k ≤ r.panes.length ∧ i = .int .i64 k ∧ lv = .int .i64 (leastL r f k) ∧ mv = .int .i64 (mostL r f k) ∧ ∃ y : Later W2, wr = y.w) (fun _ _ i _ => r.panes.length - (intOf i).toNat)
    case atStart => exact ⟨0, Nat.zero_le _, rfl, rfl, rfl, x1, rfl⟩
    case round =>
      clear x1
      obtain ⟨k, hkk, rfl, rfl, rfl, x1, rfl⟩ := hrel
      have hmb := mostL_bd r f k
      have hlb := leastL_bd r f k
      by_cases hlt : k < r.panes.length
      · obtain ⟨g1, g2, _, g4⟩ := h3.out k hlt
        obtain ⟨bq, oq, rfl, hbq, d0⟩ := hq.out k hlt
        obtain ⟨i0, hi0⟩ := Int.eq_ofNat_of_zero_le g1
        have hi0p : i0 < p.opts.length := by have := hlen.out; omega
        have hp0 : paneAt r k = i0 := by unfold paneAt; omega
        rw [hi0] at d0
        have hst := rng_lt (p := p) (f := f) (h300 i0 hi0p).1
        have hbd := rng_bd (p := p) (hfill i0)
        have hl0 : (nth r.hits k).length = (nth p.opts (paneAt r k)).length := by rw [g4]; rfl
        have hH1 := hitL_sub (p := p) (r := r) (i := k) hfill hl0
        have hM1 := missL_sub (p := p) (r := r) (i := k) hfill hl0
        rw [hp0] at hH1 hM1 hl0
        obtain ⟨bk, okk, rfl, hbk, u, c0, hu⟩ := hhx.out k (by have := h1.out; omega)
        have hcu := HC3.out.rows _ _ _ _ k u rfl (by have := h1.out; omega) (c0 (Later.now W2))
        obtain ⟨au, cu, rfl, lu, _⟩ := hu.opened
        have hcu2 := hcu _ _ _ rfl
        have hs0 := Lib.hid (hsome.out i0 hi0p)
        have hL1 : Hid (leastL r f (k + 1) = if missL r f k = true then leastL r f k else leastL r f k + 1) := Lib.hid rfl
        have hL2 : Hid (mostL r f (k + 1) = if hitL r f k = true then mostL r f k + 1 else mostL r f k) := Lib.hid rfl
        have hkh : k < r.hits.length := by have := h1.out; omega
        obtain ⟨a0, ha0⟩ : ∃ n, loN f i0 = n := ⟨_, rfl⟩
        obtain ⟨d0', hd0⟩ : ∃ n, hiN p f i0 = n := ⟨_, rfl⟩
        rw [ha0, hd0] at hs0 hH1 hM1 hbd hst
        have hd1 : d0' ≤ (nth r.hits k).length := by omega
        have hS1 := Lib.hid (fun y : Later W2 => phasBl y _ _ true (hu.sub (a := a0) hd1 (cu - a0)))
        have hS2 := Lib.hid (fun y : Later W2 => phasBl y _ _ false (hu.sub (a := a0) hd1 (cu - a0)))
        rw [hH1] at hS1
        rw [hM1] at hS2
        have hg3 : a0 ≤ d0' := hbd.1
        have hg4 : d0' ≤ cu := by omega
        have hne3 : ¬ cu = a0 := by omega
        have hne4 : ¬ a0 = cu := by omega
        replace hi0 := Lib.hid hi0
        clear hcu hu ha0 hd0 hH1 hM1 hl0 hp0 g4 hbd
        cases hH : hitL r f k <;> cases hM : missL r f k
        all_goals
          rw [hH] at hS1 hL2
          rw [hM] at hS2 hL1
          go_wp2_with (first | (go_at_call 167; refine (hs0.out _).mono ?_; rintro e w' ⟨rfl, x1, rfl⟩) | (go_at_call 112; (with_reducible refine (hS1.out _).mono ?_); rintro e w' ⟨rfl, x1, rfl⟩) | (go_at_call 112; (with_reducible refine (hS2.out _).mono ?_); rintro e w' ⟨rfl, x1, rfl⟩))
          go_roundw
          case rel => exact ⟨k + 1, by omega, by go_num, by rw [hL1.out]; rfl, by rw [hL2.out]; rfl, x1, rfl⟩
          case measure => simp [intOf]; omega
      · obtain rfl : k = r.panes.length := by omega
        obtain ⟨M, hM⟩ : ∃ M, mostL r f r.panes.length = M := ⟨_, rfl⟩
        obtain ⟨L, hL⟩ : ∃ L, leastL r f r.panes.length = L := ⟨_, rfl⟩
        rw [hM, hL] at hbr
        rw [hM, hL]
        clear hM hL
        go_wp2
        go_ret
        exact hend.out _ _ (by rw [hbr.out])
  · obtain ⟨h1, h2, h3, h4, h5, h6, h7, h8, h9⟩ := pair_at hc
    have hlen' := hlen.out
    have hk' : (r.kind == 2) = true := by simp [hk]
    have hbr : Hid (brokenB r f = !pairL r f) := Lib.hid (by unfold brokenB; rw [if_pos hk])
    obtain ⟨bq, oq, rfl, hbq, d0⟩ := hq.out 0 (by omega)
    obtain ⟨_, _, he, _, d1⟩ := hq.out 1 (by omega)
    cases he
    obtain ⟨i0, hi0⟩ := Int.eq_ofNat_of_zero_le h5.1
    obtain ⟨i1, hi1⟩ := Int.eq_ofNat_of_zero_le h6.1
    have hp0 : paneAt r 0 = i0 := by unfold paneAt; omega
    have hp1 : paneAt r 1 = i1 := by unfold paneAt; omega
    rw [hi0, Nat.add_zero] at d0
    rw [hi1] at d1
    have hi0p : i0 < p.opts.length := by omega
    have hi1p : i1 < p.opts.length := by omega
    have hst0 := rng_lt (p := p) (f := f) (h300 i0 hi0p).1
    have hst1 := rng_lt (p := p) (f := f) (h300 i1 hi1p).1
    have hg := Lib.hid hfill
    have hbd0 := rng_bd (p := p) (hfill i0)
    have hbd1 := rng_bd (p := p) (hfill i1)
    replace h1 := Lib.hid h1
    have hql : 1 < r.panes.length := by have := h1.out; omega
    replace h2 := Lib.hid h2
    replace h3 := Lib.hid h3
    replace h4 := Lib.hid h4
    replace h7 := Lib.hid h7
    replace hi0 := Lib.hid hi0
    replace hi1 := Lib.hid hi1
    have hN := Lib.hid (fun h => @pairL_no p r f hg.out (by rw [hp0, h8]; congr 2) (fun i hi => by rw [hp1, h9 i hi]; congr 2) h)
    have hY := Lib.hid (fun i h1 h2 h => @pairL_yes p r f i hg.out (by rw [hp0, h8]; congr 2) (fun i hi => by rw [hp1, h9 i hi]; congr 2) h1 h2 h)
    rw [hp0, hp1] at hN hY
    have hkl : hiN p f i0 ≤ r.ok.length := by rw [h8]; have := hi0.out; rw [show (nth r.panes 0).toNat = i0 by omega]; exact hbd0.2
    have hrowl : Hid (∀ i, i < r.ok.length → hiN p f i1 ≤ (nth r.ok i).length) := Lib.hid (fun i hi => by rw [h9 i hi]; have := hi1.out; rw [show (nth r.panes 1).toNat = i1 by omega]; exact hbd1.2)
    clear hlen'
    replace h8 := Lib.hid h8
    replace hk := Lib.hid hk
    replace h9 := Lib.hid h9
    replace hp0 := Lib.hid hp0
    replace hp1 := Lib.hid hp1
    obtain ⟨a0, ha0⟩ : ∃ n, loN f i0 = n := ⟨_, rfl⟩
    obtain ⟨d0', hd0⟩ : ∃ n, hiN p f i0 = n := ⟨_, rfl⟩
    obtain ⟨a1, ha1⟩ : ∃ n, loN f i1 = n := ⟨_, rfl⟩
    obtain ⟨d1', hd1⟩ : ∃ n, hiN p f i1 = n := ⟨_, rfl⟩
    rw [ha0, hd0, ha1, hd1] at hN hY
    rw [ha0, hd0] at hbd0 hst0
    rw [ha1, hd1] at hbd1 hst1
    rw [hd0] at hkl
    rw [hd1] at hrowl
    have hs0 := Lib.hid (hsome.out i0 hi0p)
    have hs1 := Lib.hid (hsome.out i1 hi1p)
    rw [ha0, hd0] at hs0
    rw [ha1, hd1] at hs1
    clear ha0 hd0 ha1 hd1
    obtain ⟨_, _, hqq, _, hkx⟩ := HR.out.ok.opened
    cases hqq
    have hg1 : a0 ≤ d0' := hbd0.1
    have hg2 : d0' ≤ ck := by omega
    have hne1 : ¬ ck = a0 := by omega
    have hne2 : ¬ a0 = ck := by omega
    clear hbd0
    obtain ⟨bk, okk, rfl, hbk, _⟩ := hkx.out a0 (by omega)
    have hadd := addr_add bk okk a0
    go_upto_region 6 with (first | (go_at_call 167; (with_reducible refine (hs0.out _).mono ?_); rintro e w' ⟨rfl, x1, rfl⟩) | (go_at_call 167; (with_reducible refine (hs1.out _).mono ?_); rintro e w' ⟨rfl, x1, rfl⟩))
    clear hs0 hs1
    go_loopw [48] (fun i wr => ∃ k : Nat, k ≤ d0' - a0 ∧ i = .int .i64 k ∧ (∃ y : Later W2, wr = y.w) ∧ (∀ i, a0 ≤ i → i < a0 + k → (subB (nth r.ok i) a1 d1').contains true = false)) (fun i _ => d0' - a0 - (intOf i).toNat)
    case atStart => exact ⟨0, Nat.zero_le _, rfl, ⟨x1, rfl⟩, by omega⟩
    case round =>
      clear x1
      obtain ⟨k, hkk, rfl, ⟨x1, rfl⟩, hno⟩ := hrel
      replace hno := Lib.hid hno
      by_cases hlt : k < d0' - a0
      · obtain ⟨_, _, he, _, u, c0, hu⟩ := hkx.out (a0 + k) (by omega)
        cases he
        have hrl := hrowl.out (a0 + k) (by omega)
        have hcu := HC6.out.rows _ _ _ _ (a0 + k) u rfl (by omega) (c0 (Later.now W2))
        obtain ⟨au, cu, rfl, lu, _⟩ := hu.opened
        have hcu2 := hcu _ _ _ rfl
        have hS := Lib.hid (fun y : Later W2 => phasBl y _ _ true (hu.sub (a := a1) hrl (cu - a1)))
        rw [← Nat.add_assoc] at c0
        have hg3 : a1 ≤ d1' := hbd1.1
        have hg4 : d1' ≤ cu := by omega
        have hne3 : ¬ cu = a1 := by omega
        have hne4 : ¬ a1 = cu := by omega
        clear hcu hu
        cases hB : (subB (nth r.ok (a0 + k)) a1 d1').contains true <;> rw [hB] at hS
        · go_wp2_with (go_at_call 112; refine (hS.out _).mono ?_; rintro e w' ⟨rfl, x1, rfl⟩)
          go_roundw
          case rel => exact ⟨k + 1, by omega, by go_num, ⟨x1, rfl⟩, fun i h1 h2 => by
            rcases Nat.lt_or_ge i (a0 + k) with h3 | h3
            · exact hno.out i h1 h3
            · obtain rfl : i = a0 + k := by omega
              exact hB⟩
          case measure => simp [intOf]; omega
        · have hy := Lib.hid (hY.out (a0 + k) (by omega) (by omega) hB)
          go_wp2_with (go_at_call 112; refine (hS.out _).mono ?_; rintro e w' ⟨rfl, x1, rfl⟩)
          go_ret; exact hend.out _ _ (by rw [hbr.out, hy.out]; rfl)
      · have hn := Lib.hid (hN.out (fun i h1 h2 => hno.out i h1 (by omega)))
        have hkeq : k = d0' - a0 := by omega
        go_wp2
        go_ret; exact hend.out _ _ (by rw [hbr.out, hn.out]; rfl)
end Go.Proofs.Ytmpkbolabdmkkaa
