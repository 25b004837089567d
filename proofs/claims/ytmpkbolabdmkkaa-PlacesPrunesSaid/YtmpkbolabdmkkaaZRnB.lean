/- CONTRACT of the reference's Prune. -/
import Derived.Test.YtmpkbolabdmkkaaZRnA
import Derived.Test.YtmpkbolabdmkkaaZPnC
import Derived.Test.YtmpkbolabdmkkaaZd
namespace Go.Proofs.Ytmpkbolabdmkkaa
open Go.RowKit

theorem pass_row {p : Prob} {t : List (List Bool)} (i : Nat) : passTo p t (i + 1) = rowTo p (passTo p t i) i (nth p.opts i).length := rfl
theorem row_rule {p : Prob} {t : List (List Bool)} (i o : Nat) : rowTo p t i (o + 1) = ruleTo p (rowTo p t i o) i o p.rules.length := rfl

set_option maxRecDepth 100000 in
set_option maxHeartbeats 4000000 in
theorem rPrune {W : World} (x : Later W) (v0 v1 v2 : Value) (p : Prob) (hp : IsProb W v0 v1 v2 p) :
    Calls Try.prog 44 #[.agg #[v0, v1, v2]] x.w (EndsPruned W p) := by
  go_enter Try.func44, Try.ntmps44
  go_upto_region 1 with (fail)
  obtain ⟨W1, x1, e1, hb1, s1, p0, p1, p2⟩ := enter3 x v0 v1 v2 26
  rw [e1]; clear e1
  have HP := Lib.hid (hp.below hb1)
  obtain ⟨ap, cp, rfl, lp, _⟩ := hp.panes.opened
  obtain ⟨ao, co, rfl, lo, _⟩ := hp.opts.opened
  obtain ⟨ar, cr, rfl, lr, _⟩ := hp.rules.opened
  clear hp
  have hV0 := Lib.hid (fun y : Later W1 => rValid y _ _ _ p HP.out)
  cases hv : validP p
  · rw [hv] at hV0
    have hfin : Hid (∀ y : Later W1, EndsPruned W p (.returned (.tuple #[.slice none 0 0, .int .i64 70])) y.w) := Lib.hid (fun y => by
      obtain ⟨z, hz⟩ := y.down hb1
      exact ⟨_, _, [], rfl, ⟨z, hz, isBoolss_nil _⟩, .inl ⟨hv, rfl, rfl⟩⟩)
    go_wp2_with (go_at_call 27; refine (hV0.out x1).mono ?_; rintro e w' ⟨rfl, x1, rfl⟩)
    go_ret2
    exact hfin.out _
  rw [hv] at hV0
  have hflen : (fullTab p true).length = p.opts.length := fullTo_len p true (Nat.le_refl _)
  replace hflen := Lib.hid hflen
  have hn : p.opts.length ≤ 65536 := by have := valid_len hv; have := valid_pane64 hv; omega
  go_upto_region 4 with (first | (go_at_call 27; refine (hV0.out x1).mono ?_; rintro e w' ⟨rfl, x1, rfl⟩) | (go_at_call 107; refine (rnone x1 _ _ _ p true HP.out hn).mono ?_; rintro e w' ⟨v, rfl, x2, rfl, vs, htab⟩; obtain ⟨at_, ct, rfl⟩ := htab.slice; rw [hflen.out] at htab ⊢))
  replace htab := Lib.hid htab
  obtain ⟨_, _, hqq, _, hrules⟩ := HP.out.rules.opened
  cases hqq
  have hfin : Hid (∀ (y : Later W1) (t : List (List Bool)), OwnTab y (.slice at_ p.opts.length ct) t vs → Shp p t → Prunes p (fullTab p true) t → EndsPruned W p (.returned (.tuple #[.slice at_ p.opts.length ct, .int .i64 0])) y.w) := Lib.hid (fun y t hO hshp hpr => by
    obtain ⟨z', hz', hO'⟩ := hO.down hb1
    refine ⟨_, _, t, rfl, ⟨z', hz', ?_⟩, .inr ⟨hv, rfl, hpr⟩⟩
    exact hO'.is (by have := hshp.len; omega) (fun i hi => by have := hshp.row i (by rw [← hshp.len]; exact hi); have := valid_opts hv (i := i) (by rw [← hshp.len]; exact hi); omega))
  go_wp2
  go_loopg [5] (cntT (fullTab p true) + 1) (fun g ch wr => ∃ t, (∃ y : Later W1, wr = y.w ∧ OwnTab y (.slice at_ p.opts.length ct) t vs) ∧ Shp p t ∧ ((ch = .bool true ∧ g = cntT t + 1 ∧ ∀ out, Prunes p t out → Prunes p (fullTab p true) out) ∨ (ch = .bool false ∧ g = 0 ∧ Prunes p (fullTab p true) t)))
  case atStart => exact ⟨_, ⟨x2, rfl, htab.out⟩, shp_full p true, .inl ⟨rfl, rfl, fun _ h => h⟩⟩
  case round =>
    clear htab x2
    obtain ⟨t, ⟨z, rfl, hT⟩, hs, ⟨rfl, hg, hpr⟩ | ⟨rfl, hg, hpr⟩⟩ := hrel
    · replace hg := Lib.hid hg
      replace hpr := Lib.hid hpr
      replace hT := Lib.hid hT
      go_wp2
      go_loopw [5, 6] (fun ch iv wr => ∃ i : Nat, i ≤ p.opts.length ∧ iv = .int .i64 i ∧ ch = .bool (decide (cntT (passTo p t i) < cntT t)) ∧ ∃ y : Later W1, wr = y.w ∧ OwnTab y (.slice at_ p.opts.length ct) (passTo p t i) vs) (fun _ i _ => p.opts.length - (intOf i).toNat)
      case atStart => exact ⟨0, Nat.zero_le _, rfl, by simp [passTo], z, rfl, hT.out⟩
      case round =>
        clear hT z
        obtain ⟨i, hi, rfl, rfl, ⟨z, rfl, hT⟩⟩ := hrel
        by_cases hlt : i < p.opts.length
        · have hs1 := hs.passTo i
          obtain ⟨hv1, hv2⟩ := valid_opts hv hlt
          replace hT := Lib.hid hT
          go_wp2
          go_loopw [5, 7] (fun ch ov wr => ∃ o : Nat, o ≤ (nth p.opts i).length ∧ ov = .int .i64 o ∧ ch = .bool (decide (cntT (rowTo p (passTo p t i) i o) < cntT t)) ∧ ∃ y : Later W1, wr = y.w ∧ OwnTab y (.slice at_ p.opts.length ct) (rowTo p (passTo p t i) i o) vs) (fun _ ov _ => (nth p.opts i).length - (intOf ov).toNat)
          case atStart => exact ⟨0, Nat.zero_le _, rfl, rfl, z, rfl, hT.out⟩
          case round =>
            clear hT z
            obtain ⟨o, ho, rfl, rfl, ⟨z, rfl, hT⟩⟩ := hrel
            have hs2 := hs1.rowTo i o
            have hTT := Lib.hid hT
            obtain ⟨g, c2, q, hq, hgs, hq2, e0, hown, hrow⟩ := hT.at_ (i := i) (by rw [hs2.len]; exact hlt)
            rw [hs2.len] at hq
            cases hq
            obtain ⟨agr_, cgr, rfl⟩ := owns_slice hown
            rw [hs2.row i hlt] at e0
            clear hrow hown hq2 hT
            by_cases hlto : o < (nth p.opts i).length
            · go_wp2
              go_loopw [5, 8] (fun ch mv wr => ∃ m : Nat, m ≤ p.rules.length ∧ mv = .int .i64 m ∧ ch = .bool (decide (cntT (ruleTo p (rowTo p (passTo p t i) i o) i o m) < cntT t)) ∧ ∃ y : Later W1, wr = y.w ∧ OwnTab y (.slice (some ⟨g, 0, none⟩) p.opts.length ct) (ruleTo p (rowTo p (passTo p t i) i o) i o m) vs) (fun _ mv _ => p.rules.length - (intOf mv).toNat)
              case atStart => exact ⟨0, Nat.zero_le _, rfl, by rw [ruleTo_0], z, rfl, by rw [ruleTo_0]; exact hTT.out⟩
              case round =>
                clear hTT e0 hgs z
                obtain ⟨m, hm, rfl, rfl, ⟨z, rfl, hT⟩⟩ := hrel
                by_cases hltm : m < p.rules.length
                · have hs3 := hs2.ruleTo i o m
                  have hTT := Lib.hid hT
                  obtain ⟨g1, c2, q, hq, hgs, hq2, e0, hown, hrow⟩ := hT.at_ (i := i) (by rw [hs3.len]; exact hlt)
                  rw [hs3.len] at hq
                  cases hq
                  obtain ⟨g', c', rfl, hg', f0, f1, hset⟩ := hrow o (by rw [hs3.row i hlt]; exact hlto)
                  rw [hs3.row i hlt] at e0
                  clear hrow hown hq2 hset f1 hT
                  cases hA : nth (nth (ruleTo p (rowTo p (passTo p t i) i o) i o m) i) o
                  · have hro : Hid (ruleTo p (rowTo p (passTo p t i) i o) i o (m + 1) = ruleTo p (rowTo p (passTo p t i) i o) i o m) := Lib.hid (ruleTo_off hA)
                    rw [hA] at f0
                    go_wp2
                    go_roundw
                    case rel => exact ⟨m + 1, by omega, by go_num, by rw [hro.out], z, rfl, by rw [hro.out]; exact hTT.out⟩
                    case measure => simp [intOf]; omega
                  · obtain ⟨hr1, hr2, hr3⟩ := ruleTo_left (by rw [hs2.len]; exact hlt) (by rw [hs2.row i hlt]; exact hlto) hA
                    rw [hA] at f0
                    rw [hr1] at hTT ⊢
                    clear hr1 hA
                    obtain ⟨bk, ok, rfl, hbk, u2, u3, u6, c0, c1, c2, c3, c4, c5, c6, hR⟩ := hrules.out m hltm
                    have hIsT : IsBoolss z.w (.slice (some ⟨g, 0, none⟩) p.opts.length ct) (rowTo p (passTo p t i) i o) := hTT.out.is (by have := hs2.len; omega) (fun j hj => by have := hs2.row j (by rw [← hs2.len]; exact hj); have := valid_opts hv (i := j) (by rw [← hs2.len]; exact hj); omega)
                    have hC := Lib.hid (fun y : Later z.w => rstruck y u2 u3 u6 _ p (nth p.rules m) (rowTo p (passTo p t i) i o) i o (hR.below z.h) hIsT hs2 (valid_len hv) (valid_rule hv hltm) hlt hlto)
                    obtain ⟨aq, cq, rfl, _, _⟩ := hR.panes.opened
                    obtain ⟨ah, ch, rfl, _, _⟩ := hR.hits.opened
                    obtain ⟨ak, ck, rfl, _, _⟩ := hR.ok.opened
                    clear hR hIsT
                    cases hB : struckB (nth p.rules m) (rowTo p (passTo p t i) i o) i o <;> rw [hB] at hC
                    · have hro : Hid (ruleTo p (rowTo p (passTo p t i) i o) i o (m + 1) = rowTo p (passTo p t i) i o) := Lib.hid (ruleTo_no hr3 hB)
                      go_wp2_with (go_at_call 108; refine (hC.out (Later.now z.w)).mono ?_; rintro e w' ⟨rfl, y, rfl⟩)
                      go_roundw
                      case rel => exact ⟨m + 1, by omega, by go_num, by rw [hro.out], z.up y, rfl, by rw [hro.out]; exact hTT.out.later (z := z.up y) y.h⟩
                      case measure => simp [intOf]; omega
                    · have hro : Hid (ruleTo p (rowTo p (passTo p t i) i o) i o (m + 1) = setTab (rowTo p (passTo p t i) i o) i o false) := Lib.hid (ruleTo_yes hr2 hB)
                      have hlt3 : Hid (cntT (setTab (rowTo p (passTo p t i) i o) i o false) < cntT t) := Lib.hid (by
                        have h1 := cntT_set (by rw [hs2.len]; exact hlt) (by rw [hs2.row i hlt]; exact hlto) hr2
                        have h2 := cnt_pass hs i (by omega)
                        have h3 := cnt_row hs1 hlt o (by omega)
                        omega)
                      go_upto_region 17 with (go_at_call 108; refine (hC.out (Later.now z.w)).mono ?_; rintro e w' ⟨rfl, y, rfl⟩)
                      clear hgs e0 f0 hg'
                      have hT := hTT.out.later (z := z.up y) y.h
                      obtain ⟨g1, c2', q, hq, hgs, hq2, e0, hown, hrow⟩ := hT.at_ (i := i) (by rw [hs2.len]; exact hlt)
                      rw [hs2.len] at hq
                      cases hq
                      obtain ⟨g', c'', rfl, hg', f0, f1, hset⟩ := hrow o (by rw [hs2.row i hlt]; exact hlto)
                      rw [hs2.row i hlt] at e0
                      obtain ⟨z2, hz2, ht'⟩ := hset false
                      change (y.w.setCell _ _) = _ at hz2
                      change y.w.cell? _ = _ at e0 f0
                      change y.w.frozen? _ = _ at f1
                      change g' < y.w.heap.size at hg'
                      change g < y.w.heap.size at hgs
                      replace ht' := Lib.hid ht'
                      clear hrow hown hq2 hset hT
                      go_wp2
                      go_roundw
                      case rel => exact ⟨m + 1, by omega, by go_num, by rw [hro.out, decide_eq_true hlt3.out], z2, rfl, by rw [hro.out]; exact ht'.out⟩
                      case measure => simp [intOf]; omega
                · obtain rfl : m = p.rules.length := by omega
                  go_wp2
                  go_roundw
                  case rel => exact ⟨o + 1, by omega, by go_num, rfl, z, rfl, hT⟩
                  case measure => simp [intOf]; omega
            · obtain rfl : o = (nth p.opts i).length := by omega
              go_wp2
              go_roundw
              case rel => exact ⟨i + 1, by omega, by go_num, rfl, z, rfl, hTT.out⟩
              case measure => simp [intOf]; omega
        · obtain rfl : i = p.opts.length := by omega
          by_cases hc : cntT (passTo p t p.opts.length) < cntT t
          · rw [decide_eq_true hc]
            go_wp2
            go_roundg (cntT (passTo p t p.opts.length) + 1)
            case rel => exact ⟨_, ⟨z, rfl, hT⟩, hs.passTo _, .inl ⟨rfl, rfl, fun out h => hpr.out out (.more hc h)⟩⟩
            case measure => have := hg.out; omega
          · rw [decide_eq_false hc]
            go_wp2
            go_roundg 0
            case rel => exact ⟨_, ⟨z, rfl, hT⟩, hs.passTo _, .inr ⟨rfl, rfl, hpr.out _ (.stop (by have := cnt_pass hs p.opts.length (Nat.le_refl _); show cntT (passTo p t p.opts.length) = _; omega))⟩⟩
            case measure => have := hg.out; omega
    · go_wp2
      go_ret2
      exact hfin.out z t hT hs hpr
end Go.Proofs.Ytmpkbolabdmkkaa
