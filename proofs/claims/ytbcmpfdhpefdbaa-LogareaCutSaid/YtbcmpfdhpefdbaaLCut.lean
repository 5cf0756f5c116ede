/- The walk of the law LogareaCut: it returns true. -/
import Derived.Test.YtbcmpfdhpefdbaaLLog
set_option linter.unusedVariables false
set_option linter.unusedSimpArgs false
namespace Go.Proofs.Ytbcmpfdhpefdbaa
open Go.RowKit
attribute [local irreducible] Go.Calls

set_option maxRecDepth 100000 in
set_option maxHeartbeats 4000000 in
theorem lawCut_any (A : Option Addr) (n c : Nat) (rs : List Rec) (at_ : Nat) (lose : Bool) (w : World) (h : RdR w (fun k => k < w.heap.size) A n rs) (hnc : n ≤ c) (hcm : c ≤ maxLen) (hat : at_ < 65536) :
    Calls Try.prog 11 #[.slice A n c, .int .u16 (at_ : Int), .bool lose] w (LawPost w) := by
  have hnm : n ≤ maxLen := Nat.le_trans hnc hcm
  have hn := hid h.1
  go_enter Try.func11, Try.ntmps11
  go_wp2_with fail
  refine (awake28_any _).mono ?_
  rintro e w1 ⟨rfl, hb1⟩
  have hs1 := hb1.size
  go_wp2_with fail
  refine (few_any (fun k => k < w.heap.size) A n c rs _ (h.keep (Kp.of_below hb1 (fun k hk => hk))) hnm (fun k hk => by omega)).mono ?_
  rintro e w2 ⟨rfl, hb2⟩
  have hs2 := hb2.size
  have hbel2 := hb1.trans (hb2.mono hs1)
  cases hfw : fewB rs with
  | false =>
    clear hfw
    go_wp2_with fail
    go_ret
    exact ⟨rfl, hbel2⟩
  | true =>
    have hn20 : n ≤ 20 := by rw [hn.out]; exact fewB_true hfw
    clear hfw
    by_cases h0 : n = 0
    · subst h0
      go_wp2_with fail
      go_ret
      exact ⟨rfl, hbel2⟩
    · have h0i : ((n : Int) == 0) = false := by simp; omega
      have h0j : ¬ (n : Int) = 0 := by omega
      have hnz : (0 : Int) < (n : Int) := by omega
      have hnz2 : 0 < n := by omega
      go_wp2_with fail
      refine (logValid28_any (fun k => k < w.heap.size) A n c rs _ (h.keep (Kp.of_below hbel2 (fun k hk => hk))) (by omega) (fun k hk => by omega)).mono ?_
      rintro e w3 ⟨rfl, hb3⟩
      have hs3 := hb3.size
      have hbel3 := hbel2.trans (hb3.mono (by omega))
      cases hlb : logB rs with
      | false =>
        clear hlb
        go_wp2_with fail
        go_ret
        exact ⟨rfl, hbel3⟩
      | true =>
        have hlb' := hid hlb
        clear hlb
        go_wp2_with fail
        obtain ⟨y, hy⟩ : ∃ y, rs[0]? = some y := ⟨rs[0]'(by rw [← hn.out]; omega), List.getElem?_eq_getElem _⟩
        obtain ⟨b, o, Bw, mw, dw, Bm, mm, dm, Bn, mn, dn, rfl, hbF, hr2, hc2⟩ := h.at_ hy
        have hg0 : w.cell? ⟨b, o, none⟩ = some (.int .u64 (y.gen : Int)) := by simpa using hc2 0 _ rfl
        have hlog := hid (LogIn.of h.ok hlb'.out hy)
        have hall := hid (fun r hr => (⟨h.ok r hr, logB_vld hlb'.out r hr⟩ : r.Ok ∧ r.vld = true))
        have hlen := hid (show (allSecs rs).length ≤ 4000 from Nat.le_trans (allSecs_le hall.out) (by rw [← hn.out]; omega))
        have hsh := hid (allSecs_short hall.out)
        have hpos := hid (show 0 < (allSecs rs).length by
          have e := allSecs_split hy
          rw [e, List.length_append, List.length_append]
          have := sectors_pos y
          omega)
        clear hy hc2 hr2
        refine (secs28_any (fun k => k < w.heap.size) (some ⟨b, o, none⟩) n c rs _ (h.keep (Kp.of_below hbel3 (fun k hk => hk))) (by omega) (fun k hk => by omega)).mono ?_
        rintro e w7 ⟨v7, rfl, hown7, hb7⟩
        rw [secsE, hlb'.out]
        rw [secsA, hlb'.out] at hown7
        simp only [if_true] at hown7 ⊢
        obtain ⟨A7, c7, rfl, hc7, hm7⟩ := hown7.form
        obtain ⟨q, hq⟩ : ∃ q, q = (allSecs rs).length := ⟨_, rfl⟩
        rw [← hq] at hown7 hc7 ⊢
        have hqq : q ≤ 4000 := by rw [hq]; exact hlen.out
        have hq0 : 0 < q := by rw [hq]; exact hpos.out
        have hq' := hid hq
        have hs7 := hb7.size
        have hbel7 := hbel3.trans (hb7.mono (by omega))
        have hown7' := hid hown7
        have hqne : ¬ (q : Int) = 0 := by omega
        obtain ⟨k, hk⟩ : ∃ k, k = at_ % q := ⟨_, rfl⟩
        have hkl : k < q := by rw [hk]; exact Nat.mod_lt _ hq0
        have hrem : (at_ : Int).tmod (q : Int) = (k : Int) := by rw [hk, Int.tmod_eq_emod_of_nonneg (by omega)]; simp
        have hrem2 : (at_ : Int) % (q : Int) = (k : Int) := by rw [hk]; simp
        clear hown7 hq hk
        go_wp2_with fail
        clear hrem hrem2
        go_loopw [10, 11, 44] (fun p u i wr => ∃ (j U : Nat), i = .int .i64 (j : Int) ∧ j ≤ n ∧ p = .int .i64 (j : Int) ∧ u = .int .i64 (U : Int) ∧ Hid (U = (allSecs (rs.take j)).length) ∧ U ≤ k ∧ Below w7.heap.size w7 wr) (fun _ _ i _ => n - (intOf i).toNat)
        case atStart => exact ⟨0, 0, rfl, by omega, rfl, rfl, (rfl : 0 = (allSecs (rs.take 0)).length), by omega, Below.refl _ _⟩
        case round =>
          obtain ⟨j, U, rfl, hj, rfl, rfl, hU, hUk, hbl⟩ := hrel
          have hzr := hbl.size
          have hbel := hbel7.trans (hbl.mono (by omega))
          by_cases hjn : j < n
          · obtain ⟨x, hx⟩ : ∃ x, rs[j]? = some x := ⟨rs[j]'(by rw [← hn.out]; exact hjn), List.getElem?_eq_getElem _⟩
            obtain ⟨b2, o2, Aw, nw, cw, Am, nm, cm, An, nn, cn, hbo, hFb, hr1, hc1⟩ := (h.keep (Kp.of_below hbel (fun k hk => hk))).at_ hx
            injection hbo with hbo
            injection hbo with hb1_ hb2_
            subst hb1_ hb2_
            have hxv := hid (hall.out x (List.mem_of_getElem? hx)).2
            have hx' := hid hx
            have hc1' := hid hc1
            have hsl := sectors_le hr1.ok hxv.out
            clear hx hc1
            go_wp2_with ((with_reducible refine at_wl ?_); (refine wpList_ldAt rfl 27 _ rfl b (o + j * 5) (recCells x Aw nw cw Am nm cm An nn cn).toList _ rfl hc1'.out Try.underlying27 rfl info_rec ?_))
            refine (encode27_any (fun k => k < w.heap.size) x Aw nw cw Am nm cm An nn cn _ hr1 (fun k hk => by omega)).mono ?_
            rintro e w4 ⟨v2, rfl, hown2, hb4⟩
            rw [encP, hxv.out, if_pos rfl] at hown2
            obtain ⟨A2, c2, rfl, hc2, hm2⟩ := hown2.form
            obtain ⟨p, hp⟩ : ∃ p, p = (sectors x).length := ⟨_, rfl⟩
            rw [← hp] at hc2 hsl ⊢
            have hp' := hid hp
            have hs4 := hb4.size
            have hbl4 := hbl.trans (hb4.mono (by omega))
            clear hown2 hp hr1
            by_cases hgt : k < U + p
            · have hgi : (k : Int) < (U : Int) + (p : Int) := by omega
              have hcut := hid (scan_cut hlog.out hx'.out (k := k) (by rw [← hU.out]; exact hUk) (by rw [← hU.out, ← hp'.out]; exact hgt))
              have hown4 := hid (hown7'.out.below hbl4)
              have hbel4 := hbel7.trans (hbl4.mono (by omega))
              obtain ⟨sk, hsk⟩ : ∃ sk, (allSecs rs)[k]? = some sk := ⟨_, List.getElem?_eq_getElem (by rw [← hq'.out]; exact hkl)⟩
              have hkal : k < (allSecs rs).length := by rw [← hq'.out]; exact hkl
              have hlt7 := hown7'.out.lt
              cases lose with
              | true =>
                obtain ⟨bA, oA, Ak, ck, rfl, hFA1, hFA2, hcA, hlk, hmk, hrk⟩ := hown4.out.at_ hsk
                have hbA7 : bA < w7.heap.size ∧ w.heap.size ≤ bA := by have := hlt7 bA rfl; omega
                have hset := (hown4.out.set_ (k := k) hkal (A' := none) (c' := 0) (s' := []) ⟨rfl, Rd.none_⟩ (Nat.le_refl _) (Nat.zero_le _)).1
                have hfr := (hown4.out.set_ (k := k) hkal (A' := none) (c' := 0) (s' := []) ⟨rfl, Rd.none_⟩ (Nat.le_refl _) (Nat.zero_le _)).2
                have hrdW : RdS (w4.setCell ⟨bA, oA + k, none⟩ (.slice none 0 0)) (fun q => q < w4.heap.size) (some ⟨bA, oA, none⟩) q ((allSecs rs).set k []) := hset
                have hgW : (w4.setCell ⟨bA, oA + k, none⟩ (.slice none 0 0)).cell? ⟨b, o, none⟩ = some (.int .u64 (y.gen : Int)) := (World.cell?_setCell_far _ _ _ _ (by simp only; omega)).trans ((World.cell?_of_block (hbel4.block b hbF)).trans hg0)
                have hbelW : Below w.heap.size w (w4.setCell ⟨bA, oA + k, none⟩ (.slice none 0 0)) := hbel4.setCell (by simp only; omega) _
                have hkq : (k : Int) < (q : Int) := by omega
                clear hsk hset hrk
                go_wp2_with fail
                obtain ⟨wW, hwW⟩ : ∃ wW, wW = (w4.setCell ⟨bA, oA + k, none⟩ (.slice none 0 0)) := ⟨_, rfl⟩
                rw [← hwW] at hrdW hgW hbelW ⊢
                have hwWz : w4.heap.size = wW.heap.size := by rw [hwW]; simp [World.setCell]
                clear hwW
                refine (scan_any (fun q => q < w4.heap.size) (some ⟨bA, oA, none⟩) q c7 ((allSecs rs).set k []) y.gen _ hrdW (by omega) hm7 (fun s hs => by rcases mem_set hs with h1 | h1; (have := hsh.out s h1; omega); (rw [h1]; simp)) (by rw [List.length_set, ← hq'.out]; omega) (fun q hq => by omega)).mono ?_
                rintro e w10 ⟨v10, rfl, hown10, hb10⟩
                rw [hcut.out.2] at hown10 ⊢
                rw [← hU.out] at hown10 ⊢
                obtain ⟨A10, c10, rfl, hc10, hm10⟩ := hown10.form
                have hs10 := hb10.size
                have hbel10 := hbelW.trans (hb10.mono (by omega))
                have hrd10 := hid hown10.rd
                have hjl : (rs.take j).length = j := by rw [List.length_take, ← hn.out]; omega
                rw [hjl] at hrd10 hc10 ⊢
                have hji : (j : Int) ≤ (c : Int) := by omega
                have hjc : j ≤ c := by omega
                clear hown10 hjl
                go_wp2_with fail
                refine (sameAll_any _ _ A10 (some ⟨b, o, none⟩) _ c10 _ c (rs.take j) (rs.take j) _ hrd10.out ((h.keep (Kp.of_below hbel10 (fun k hk => hk))).take_ hj) (by omega) (fun k hk => hk.1) (fun k hk => by omega)).mono ?_
                rintro e w12 ⟨rfl, hb12⟩
                rw [decide_eq_true (rfl : rs.take j = rs.take j)]
                have hbel12 := hbel10.trans (hb12.mono (by omega))
                go_wp2_with fail
                go_ret
                exact ⟨by simp, hbel12⟩
              | false =>
                have hgW : w4.cell? ⟨b, o, none⟩ = some (.int .u64 (y.gen : Int)) := (World.cell?_of_block (hbel4.block b hbF)).trans hg0
                have hrdW := hid (hown4.out.rd.take_ (n := k) (by omega))
                have hkc : (k : Int) ≤ (c7 : Int) := by omega
                have hkc2 : k ≤ c7 := by omega
                clear hsk
                go_wp2_with fail
                refine (scan_any _ A7 k c7 ((allSecs rs).take k) y.gen _ hrdW.out (by omega) hm7 (fun s hs => by have := hsh.out s (List.mem_of_mem_take hs); omega) (by rw [List.length_take, ← hq'.out]; omega) (fun q hq => hq.1)).mono ?_
                rintro e w10 ⟨v10, rfl, hown10, hb10⟩
                rw [hcut.out.1] at hown10 ⊢
                rw [← hU.out] at hown10 ⊢
                obtain ⟨A10, c10, rfl, hc10, hm10⟩ := hown10.form
                have hs10 := hb10.size
                have hbel10 := hbel4.trans (hb10.mono (by omega))
                have hrd10 := hid hown10.rd
                have hjl : (rs.take j).length = j := by rw [List.length_take, ← hn.out]; omega
                rw [hjl] at hrd10 hc10 ⊢
                have hji : (j : Int) ≤ (c : Int) := by omega
                have hjc : j ≤ c := by omega
                clear hown10 hjl
                go_wp2_with fail
                refine (sameAll_any _ _ A10 (some ⟨b, o, none⟩) _ c10 _ c (rs.take j) (rs.take j) _ hrd10.out ((h.keep (Kp.of_below hbel10 (fun k hk => hk))).take_ hj) (by omega) (fun k hk => hk.1) (fun k hk => by omega)).mono ?_
                rintro e w12 ⟨rfl, hb12⟩
                rw [decide_eq_true (rfl : rs.take j = rs.take j)]
                have hbel12 := hbel10.trans (hb12.mono (by omega))
                go_wp2_with fail
                go_ret
                exact ⟨by simp, hbel12⟩
            · have hgi : ¬ (k : Int) < (U : Int) + (p : Int) := by omega
              go_wp2_with fail
              go_roundw
              case rel =>
                refine ⟨j + 1, U + p, by go_num, by omega, by go_num, by go_num, ?_, by omega, hbl4⟩
                show U + p = (allSecs (rs.take (j + 1))).length
                rw [allSecs_take hx'.out, List.length_append, ← hU.out, ← hp'.out]
              case measure => simp [intOf]; omega
          · exfalso
            have e := hU.out
            rw [List.take_of_length_le (by rw [← hn.out]; omega), ← hq'.out] at e
            omega

end Go.Proofs.Ytbcmpfdhpefdbaa
