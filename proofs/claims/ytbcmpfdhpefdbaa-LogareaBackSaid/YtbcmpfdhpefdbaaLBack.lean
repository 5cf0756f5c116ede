/- The walk of the law LogareaBack: it returns true. -/
import Derived.Test.YtbcmpfdhpefdbaaLLog
import Derived.Test.YtbcmpfdhpefdbaaReg
set_option linter.unusedVariables false
set_option linter.unusedSimpArgs false
namespace Go.Proofs.Ytbcmpfdhpefdbaa
open Go.RowKit
attribute [local irreducible] Go.Calls

set_option maxRecDepth 100000 in
set_option maxHeartbeats 4000000 in
theorem lawBack_any (A : Option Addr) (n c : Nat) (rs : List Rec) (B : Option Addr) (m d : Nat) (tail : List (List UInt8)) (w : World) (h : RdR w (fun k => k < w.heap.size) A n rs) (hnc : n ≤ c) (hcm : c ≤ maxLen)
    (ht : RdS w (fun k => k < w.heap.size) B m tail) (hmd : m ≤ d) (hdm : d ≤ maxLen) :
    Calls Try.prog 15 #[.slice A n c, .slice B m d] w (LawPost w) := by
  have hnm : n ≤ maxLen := Nat.le_trans hnc hcm
  have hmm : m ≤ maxLen := Nat.le_trans hmd hdm
  have hn := hid h.1
  have htl := hid ht.1
  go_enter Try.func15, Try.ntmps15
  go_wp2_with fail
  refine (awake28_any _).mono ?_
  rintro e w1 ⟨rfl, hb1⟩
  have hs1 := hb1.size
  go_wp2_with fail
  refine (few_any (fun k => k < w.heap.size) A n c rs _ (h.keep (Kp.of_below hb1 (fun k hk => hk))) hnm (fun k hk => by omega)).mono ?_
  rintro e w2 ⟨rfl, hb2⟩
  have hs2 := hb2.size
  have hbel2 := hb1.trans (hb2.mono hs1)
  cases hfw : fewB rs with
  | false =>
    clear hfw
    go_wp2_with fail
    go_ret
    exact ⟨rfl, hbel2⟩
  | true =>
    have hn20 : n ≤ 20 := by rw [hn.out]; exact fewB_true hfw
    clear hfw
    by_cases h0 : n = 0
    · subst h0
      go_wp2_with fail
      go_ret
      exact ⟨rfl, hbel2⟩
    · have h0i : ((n : Int) == 0) = false := by simp; omega
      have h0j : ¬ (n : Int) = 0 := by omega
      have hnz : (0 : Int) < (n : Int) := by omega
      have hnz2 : 0 < n := by omega
      go_wp2_with fail
      refine (logValid28_any (fun k => k < w.heap.size) A n c rs _ (h.keep (Kp.of_below hbel2 (fun k hk => hk))) (by omega) (fun k hk => by omega)).mono ?_
      rintro e w3 ⟨rfl, hb3⟩
      have hs3 := hb3.size
      have hbel3 := hbel2.trans (hb3.mono (by omega))
      cases hlb : logB rs with
      | false =>
        clear hlb
        go_wp2_with fail
        go_ret
        exact ⟨rfl, hbel3⟩
      | true =>
        have hlb' := hid hlb
        clear hlb
        go_wp2_with fail
        refine (large_any (fun k => k < w.heap.size) B m d tail _ (ht.keep (Kp.of_below hbel3 (fun k hk => hk))) hmm).mono ?_
        rintro e _ ⟨rfl, rfl⟩
        cases hla : largeB tail with
        | true =>
          clear hla
          go_wp2_with fail
          go_ret
          exact ⟨rfl, hbel3⟩
        | false =>
          obtain ⟨hl1, hl2⟩ := largeB_false hla
          have hl1' := hid hl1
          clear hla hl1
          obtain ⟨y, hy⟩ : ∃ y, rs[0]? = some y := ⟨rs[0]'(by rw [← hn.out]; omega), List.getElem?_eq_getElem _⟩
          obtain ⟨b, o, Bw, mw, dw, Bm, mm, dm, Bn, mn, dn, rfl, hbF, hr2, hc2⟩ := h.at_ hy
          have hg0 : w.cell? ⟨b, o, none⟩ = some (.int .u64 (y.gen : Int)) := by simpa using hc2 0 _ rfl
          have hlog := hid (LogIn.of h.ok hlb'.out hy)
          have hall := hid (fun r hr => (⟨h.ok r hr, logB_vld hlb'.out r hr⟩ : r.Ok ∧ r.vld = true))
          have hlen := hid (show (allSecs rs).length ≤ 4000 from Nat.le_trans (allSecs_le hall.out) (by rw [← hn.out]; omega))
          have hsh := hid (allSecs_short hall.out)
          have hyg := hr2.ok.gen
          unfold U64 at hyg
          obtain ⟨g2, hgw, hgne⟩ : ∃ g2 : Nat, IntKind.u64.wrap ((y.gen : Int) + 1) = (g2 : Int) ∧ g2 ≠ y.gen := ⟨(y.gen + 1) % 18446744073709551616, by rw [IntKind.wrap_u64]; omega, by omega⟩
          have hg2 := hid hgne
          have hy' := hid hy
          clear hy hc2 hr2 hgne
          go_wp2_with fail
          refine (decode27_any (fun k => k < w.heap.size) B m d tail _ (ht.keep (Kp.of_below hbel3 (fun k hk => hk))) hmd hdm (fun s hs => by have := hl1'.out s hs; omega) (by omega) (fun k hk => by omega)).mono ?_
          rintro e w4 ⟨Aw, nw, cw, Am, nm, cm, An, nn, cn, rfl, hrec, hb4⟩
          obtain ⟨dd, hd⟩ : ∃ dd, dd = decode tail := ⟨_, rfl⟩
          rw [← hd] at hrec ⊢
          have hd' := hid hd
          clear hd
          obtain ⟨x, kk, cc⟩ := dd
          simp only at hrec ⊢
          have hs4 := hb4.size
          have hbel4 := hbel3.trans (hb4.mono (by omega))
          have hZ := Blk.new w4 27 #[.int .u64 0, .int .u64 0, .slice none 0 0, .slice none 0 0, .slice none 0 0]
          go_wp2_with ((with_reducible refine at_wl ?_); (refine wpList_stBlk rfl 27 _ _ rfl w4.heap.size 27 _ (recCells x Aw nw cw Am nm cm An nn cn) hZ rfl rfl info_rec rfl rfl ?_; intro w5 hb5 hg5; refine mk_stop ?_))
          have hbl5 : Below w4.heap.size w4 w5 := below_of_only ((World.grownBy_alloc w4 _ _).trans hg5) (Nat.le_refl _) (Nat.le_refl _)
          have hbel5 := hbel4.trans (hbl5.mono (by omega))
          have hz5 := hb5.lt
          have hS : Blk w5.drew w4.heap.size 27 (recCells x Aw nw cw Am nm cm An nn cn) ∧ Below w.heap.size w w5.drew := ⟨hb5.drew, hbel5.drew⟩
          have ewi1 : IntKind.i64.wrap ((n : Int) + 1) = (n : Int) + 1 := by rw [IntKind.wrap_i64]; omega
          have ewu1 : IntKind.u64.wrap ((n : Int) + 1) = (n : Int) + 1 := by rw [IntKind.wrap_u64]; omega
          clear hZ hg5 hbl5 hrec
          unfold Mk
          by_cases hc0 : cc = 0
          · subst hc0
            by_cases hgg : x.gen = y.gen
            · have hgi : (x.gen : Int) = (y.gen : Int) := by omega
              by_cases hqq : x.seq = n + 1
              · have hqi : (x.seq : Int) = (n : Int) + 1 := by omega
                clear hgg hqq
                go_wp2_with fail
                refine wp_region_held_drew (S := (fun w6 : World => Blk w6 w4.heap.size 27 (recCells x Aw nw cw Am nm cm An nn cn) ∧ Below w.heap.size w w6)) (by kernel_rfl) (by exact hS) (fun hHeld => ?_)
                refine wpAnyH_tk (i := 0) (v := ?_) rfl (by kernel_rfl) (fun _ _ _ h => h) (by rfl) ?_ (by assumption) ?_
                rotate_left
                · (intro w hSw; (try dsimp only at hSw); go_simp; (try with_reducible rfl))
                (try simp only [Act.put, List.setIfInBounds_toArray, List.set_cons_zero, List.set_cons_succ])
                refine wpAnyH_tk (i := 1) (v := ?_) rfl (by kernel_rfl) (fun _ _ _ h => h) (by rfl) ?_ (by assumption) ?_
                rotate_left
                · (intro w hSw; (try dsimp only at hSw); go_simp; (try with_reducible rfl))
                (try simp only [Act.put, List.setIfInBounds_toArray, List.set_cons_zero, List.set_cons_succ])
                refine wpAnyH_tk (i := 2) (v := ?_) rfl (by kernel_rfl) (fun _ _ _ h => h) (by rfl) ?_ (by assumption) ?_
                rotate_left
                · (intro w hSw; (try dsimp only at hSw); go_simp; (try with_reducible rfl))
                (try simp only [Act.put, List.setIfInBounds_toArray, List.set_cons_zero, List.set_cons_succ])
                refine wpAnyH_tk (i := 3) (v := ?_) rfl (by kernel_rfl) (fun _ _ _ h => h) (by rfl) ?_ (by assumption) ?_
                rotate_left
                · (intro w hSw; (try dsimp only at hSw); go_simp; (try with_reducible rfl))
                (try simp only [Act.put, List.setIfInBounds_toArray, List.set_cons_zero, List.set_cons_succ])
                refine wpAnyH_tk (i := 5) (v := ?_) rfl (by kernel_rfl) (fun _ _ _ h => h) (by rfl) ?_ (by assumption) ?_
                rotate_left
                · (intro w hSw; (try dsimp only at hSw); go_simp; (try with_reducible rfl))
                (try simp only [Act.put, List.setIfInBounds_toArray, List.set_cons_zero, List.set_cons_succ])
                refine wpAnyH_tk (i := 6) (v := ?_) rfl (by kernel_rfl) (fun _ _ _ h => h) (by rfl) ?_ (by assumption) ?_
                rotate_left
                · (intro w hSw; (try dsimp only at hSw); go_simp; (try with_reducible rfl))
                (try simp only [Act.put, List.setIfInBounds_toArray, List.set_cons_zero, List.set_cons_succ])
                refine wpAnyH_tk (i := 7) (v := ?_) rfl (by kernel_rfl) (fun _ _ _ h => h) (by rfl) ?_ (by assumption) ?_
                rotate_left
                · (intro w hSw; (try dsimp only at hSw); go_simp; (try with_reducible rfl))
                (try simp only [Act.put, List.setIfInBounds_toArray, List.set_cons_zero, List.set_cons_succ])
                refine wpAnyH_tk (i := 4) (v := ?_) rfl (by kernel_rfl) (fun _ _ _ h => h) (by rfl) ?_ (by assumption) ?_
                rotate_left
                · (intro w hSw; (obtain ⟨ya, yb⟩ := hSw; obtain ⟨y0, y1, y2, y3, y4⟩ := ya.rec5; have y5 := (World.cell?_of_block (yb.block b hbF)).trans hg0; clear ya yb); go_simp; (try with_reducible rfl))
                (try simp only [Act.put, List.setIfInBounds_toArray, List.set_cons_zero, List.set_cons_succ])
                refine wpAnyH_tk (i := 8) (v := ?_) rfl (by kernel_rfl) (fun _ _ _ h => h) (by rfl) ?_ (by assumption) ?_
                rotate_left
                · (intro w hSw; (obtain ⟨ya, yb⟩ := hSw; obtain ⟨y0, y1, y2, y3, y4⟩ := ya.rec5; have y5 := (World.cell?_of_block (yb.block b hbF)).trans hg0; clear ya yb); go_simp; (try with_reducible rfl))
                (try simp only [Act.put, List.setIfInBounds_toArray, List.set_cons_zero, List.set_cons_succ])
                refine wpAnyH_tk (i := 9) (v := ?_) rfl (by kernel_rfl) (fun _ _ _ h => h) (by rfl) ?_ (by assumption) ?_
                rotate_left
                · (intro w hSw; (try dsimp only at hSw); go_simp; (try with_reducible rfl))
                (try simp only [Act.put, List.setIfInBounds_toArray, List.set_cons_zero, List.set_cons_succ])
                refine wpAnyH_tk (i := 10) (v := ?_) rfl (by kernel_rfl) (fun _ _ _ h => h) (by rfl) ?_ (by assumption) ?_
                rotate_left
                · (intro w hSw; (try dsimp only at hSw); go_simp; (try with_reducible rfl))
                (try simp only [Act.put, List.setIfInBounds_toArray, List.set_cons_zero, List.set_cons_succ])
                refine wpAnyH_tk (i := 11) (v := ?_) rfl (by kernel_rfl) (fun _ _ _ h => h) (by rfl) ?_ (by assumption) ?_
                rotate_left
                · (intro w hSw; (try dsimp only at hSw); go_simp; (try with_reducible rfl))
                (try simp only [Act.put, List.setIfInBounds_toArray, List.set_cons_zero, List.set_cons_succ])
                refine wpAnyH_tk (i := 12) (v := ?_) rfl (by kernel_rfl) (fun _ _ _ h => h) (by rfl) ?_ (by assumption) ?_
                rotate_left
                · (intro w hSw; (try dsimp only at hSw); go_simp; (try with_reducible rfl))
                (try simp only [Act.put, List.setIfInBounds_toArray, List.set_cons_zero, List.set_cons_succ])
                refine wpAnyH_tk (i := 13) (v := ?_) rfl (by kernel_rfl) (fun _ _ _ h => h) (by rfl) ?_ (by assumption) ?_
                rotate_left
                · (intro w hSw; (obtain ⟨ya, yb⟩ := hSw; obtain ⟨y0, y1, y2, y3, y4⟩ := ya.rec5; have y5 := (World.cell?_of_block (yb.block b hbF)).trans hg0; clear ya yb); go_simp; (try with_reducible rfl))
                (try simp only [Act.put, List.setIfInBounds_toArray, List.set_cons_zero, List.set_cons_succ])
                refine wpAnyH_tk (i := 14) (v := ?_) rfl (by kernel_rfl) (fun _ _ _ h => h) (by rfl) ?_ (by assumption) ?_
                rotate_left
                · (intro w hSw; (try dsimp only at hSw); go_simp; (try with_reducible rfl))
                (try simp only [Act.put, List.setIfInBounds_toArray, List.set_cons_zero, List.set_cons_succ])
                refine wpAnyH_tk (i := 15) (v := ?_) rfl (by kernel_rfl) (fun _ _ _ h => h) (by rfl) ?_ (by assumption) ?_
                rotate_left
                · (intro w hSw; (try dsimp only at hSw); go_simp; (try with_reducible rfl))
                (try simp only [Act.put, List.setIfInBounds_toArray, List.set_cons_zero, List.set_cons_succ])
                refine wpAnyH_tk (i := 16) (v := ?_) rfl (by kernel_rfl) (fun _ _ _ h => h) (by rfl) ?_ (by assumption) ?_
                rotate_left
                · (intro w hSw; (try dsimp only at hSw); go_simp; (try with_reducible rfl))
                (try simp only [Act.put, List.setIfInBounds_toArray, List.set_cons_zero, List.set_cons_succ])
                refine wpAnyH_tk (i := 17) (v := ?_) rfl (by kernel_rfl) (fun _ _ _ h => h) (by rfl) ?_ (by assumption) ?_
                rotate_left
                · (intro w hSw; (try dsimp only at hSw); go_simp; (try with_reducible rfl))
                (try simp only [Act.put, List.setIfInBounds_toArray, List.set_cons_zero, List.set_cons_succ])
                refine wpAnyH_tk (i := 18) (v := ?_) rfl (by kernel_rfl) (fun _ _ _ h => h) (by rfl) ?_ (by assumption) ?_
                rotate_left
                · (intro w hSw; (try dsimp only at hSw); go_simp; (try with_reducible rfl))
                (try simp only [Act.put, List.setIfInBounds_toArray, List.set_cons_zero, List.set_cons_succ])
                refine wpAnyH_tk (i := 19) (v := ?_) rfl (by kernel_rfl) (fun _ _ _ h => h) (by rfl) ?_ (by assumption) ?_
                rotate_left
                · (intro w hSw; (try dsimp only at hSw); go_simp; (try with_reducible rfl))
                (try simp only [Act.put, List.setIfInBounds_toArray, List.set_cons_zero, List.set_cons_succ])
                refine wpAnyH_done (by kernel_rfl) ?_ _
                go_wp2
                go_ret
                exact ⟨rfl, hbel5.drew⟩
              · have hqi : ¬ (x.seq : Int) = (n : Int) + 1 := by omega
                have hqi1 : ((x.seq : Int) == (n : Int) + 1) = false := by simpa using hqi
                have hst := hid (show scanOk tail y.gen rs.length = false by unfold scanOk; rw [← hd'.out, ← hn.out]; exact decide_eq_false (fun e => hqq e.2.2))
                clear hgg hqq
                go_wp2_with fail
                refine wp_region_held_drew (S := (fun w6 : World => Blk w6 w4.heap.size 27 (recCells x Aw nw cw Am nm cm An nn cn) ∧ Below w.heap.size w w6)) (by kernel_rfl) (by exact hS) (fun hHeld => ?_)
                refine wpAnyH_tk (i := 0) (v := ?_) rfl (by kernel_rfl) (fun _ _ _ h => h) (by rfl) ?_ (by assumption) ?_
                rotate_left
                · (intro w hSw; (try dsimp only at hSw); go_simp; (try with_reducible rfl))
                (try simp only [Act.put, List.setIfInBounds_toArray, List.set_cons_zero, List.set_cons_succ])
                refine wpAnyH_tk (i := 1) (v := ?_) rfl (by kernel_rfl) (fun _ _ _ h => h) (by rfl) ?_ (by assumption) ?_
                rotate_left
                · (intro w hSw; (try dsimp only at hSw); go_simp; (try with_reducible rfl))
                (try simp only [Act.put, List.setIfInBounds_toArray, List.set_cons_zero, List.set_cons_succ])
                refine wpAnyH_tk (i := 2) (v := ?_) rfl (by kernel_rfl) (fun _ _ _ h => h) (by rfl) ?_ (by assumption) ?_
                rotate_left
                · (intro w hSw; (try dsimp only at hSw); go_simp; (try with_reducible rfl))
                (try simp only [Act.put, List.setIfInBounds_toArray, List.set_cons_zero, List.set_cons_succ])
                refine wpAnyH_tk (i := 3) (v := ?_) rfl (by kernel_rfl) (fun _ _ _ h => h) (by rfl) ?_ (by assumption) ?_
                rotate_left
                · (intro w hSw; (try dsimp only at hSw); go_simp; (try with_reducible rfl))
                (try simp only [Act.put, List.setIfInBounds_toArray, List.set_cons_zero, List.set_cons_succ])
                refine wpAnyH_tk (i := 5) (v := ?_) rfl (by kernel_rfl) (fun _ _ _ h => h) (by rfl) ?_ (by assumption) ?_
                rotate_left
                · (intro w hSw; (try dsimp only at hSw); go_simp; (try with_reducible rfl))
                (try simp only [Act.put, List.setIfInBounds_toArray, List.set_cons_zero, List.set_cons_succ])
                refine wpAnyH_tk (i := 6) (v := ?_) rfl (by kernel_rfl) (fun _ _ _ h => h) (by rfl) ?_ (by assumption) ?_
                rotate_left
                · (intro w hSw; (try dsimp only at hSw); go_simp; (try with_reducible rfl))
                (try simp only [Act.put, List.setIfInBounds_toArray, List.set_cons_zero, List.set_cons_succ])
                refine wpAnyH_tk (i := 7) (v := ?_) rfl (by kernel_rfl) (fun _ _ _ h => h) (by rfl) ?_ (by assumption) ?_
                rotate_left
                · (intro w hSw; (try dsimp only at hSw); go_simp; (try with_reducible rfl))
                (try simp only [Act.put, List.setIfInBounds_toArray, List.set_cons_zero, List.set_cons_succ])
                refine wpAnyH_tk (i := 4) (v := ?_) rfl (by kernel_rfl) (fun _ _ _ h => h) (by rfl) ?_ (by assumption) ?_
                rotate_left
                · (intro w hSw; (obtain ⟨ya, yb⟩ := hSw; obtain ⟨y0, y1, y2, y3, y4⟩ := ya.rec5; have y5 := (World.cell?_of_block (yb.block b hbF)).trans hg0; clear ya yb); go_simp; (try with_reducible rfl))
                (try simp only [Act.put, List.setIfInBounds_toArray, List.set_cons_zero, List.set_cons_succ])
                refine wpAnyH_tk (i := 8) (v := ?_) rfl (by kernel_rfl) (fun _ _ _ h => h) (by rfl) ?_ (by assumption) ?_
                rotate_left
                · (intro w hSw; (obtain ⟨ya, yb⟩ := hSw; obtain ⟨y0, y1, y2, y3, y4⟩ := ya.rec5; have y5 := (World.cell?_of_block (yb.block b hbF)).trans hg0; clear ya yb); go_simp; (try with_reducible rfl))
                (try simp only [Act.put, List.setIfInBounds_toArray, List.set_cons_zero, List.set_cons_succ])
                refine wpAnyH_tk (i := 9) (v := ?_) rfl (by kernel_rfl) (fun _ _ _ h => h) (by rfl) ?_ (by assumption) ?_
                rotate_left
                · (intro w hSw; (try dsimp only at hSw); go_simp; (try with_reducible rfl))
                (try simp only [Act.put, List.setIfInBounds_toArray, List.set_cons_zero, List.set_cons_succ])
                refine wpAnyH_tk (i := 10) (v := ?_) rfl (by kernel_rfl) (fun _ _ _ h => h) (by rfl) ?_ (by assumption) ?_
                rotate_left
                · (intro w hSw; (try dsimp only at hSw); go_simp; (try with_reducible rfl))
                (try simp only [Act.put, List.setIfInBounds_toArray, List.set_cons_zero, List.set_cons_succ])
                refine wpAnyH_tk (i := 11) (v := ?_) rfl (by kernel_rfl) (fun _ _ _ h => h) (by rfl) ?_ (by assumption) ?_
                rotate_left
                · (intro w hSw; (try dsimp only at hSw); go_simp; (try with_reducible rfl))
                (try simp only [Act.put, List.setIfInBounds_toArray, List.set_cons_zero, List.set_cons_succ])
                refine wpAnyH_tk (i := 12) (v := ?_) rfl (by kernel_rfl) (fun _ _ _ h => h) (by rfl) ?_ (by assumption) ?_
                rotate_left
                · (intro w hSw; (try dsimp only at hSw); go_simp; (try with_reducible rfl))
                (try simp only [Act.put, List.setIfInBounds_toArray, List.set_cons_zero, List.set_cons_succ])
                refine wpAnyH_tk (i := 13) (v := ?_) rfl (by kernel_rfl) (fun _ _ _ h => h) (by rfl) ?_ (by assumption) ?_
                rotate_left
                · (intro w hSw; (obtain ⟨ya, yb⟩ := hSw; obtain ⟨y0, y1, y2, y3, y4⟩ := ya.rec5; have y5 := (World.cell?_of_block (yb.block b hbF)).trans hg0; clear ya yb); go_simp; (try with_reducible rfl))
                (try simp only [Act.put, List.setIfInBounds_toArray, List.set_cons_zero, List.set_cons_succ])
                refine wpAnyH_tk (i := 14) (v := ?_) rfl (by kernel_rfl) (fun _ _ _ h => h) (by rfl) ?_ (by assumption) ?_
                rotate_left
                · (intro w hSw; (try dsimp only at hSw); go_simp; (try with_reducible rfl))
                (try simp only [Act.put, List.setIfInBounds_toArray, List.set_cons_zero, List.set_cons_succ])
                refine wpAnyH_tk (i := 15) (v := ?_) rfl (by kernel_rfl) (fun _ _ _ h => h) (by rfl) ?_ (by assumption) ?_
                rotate_left
                · (intro w hSw; (try dsimp only at hSw); go_simp; (try with_reducible rfl))
                (try simp only [Act.put, List.setIfInBounds_toArray, List.set_cons_zero, List.set_cons_succ])
                refine wpAnyH_tk (i := 16) (v := ?_) rfl (by kernel_rfl) (fun _ _ _ h => h) (by rfl) ?_ (by assumption) ?_
                rotate_left
                · (intro w hSw; (try dsimp only at hSw); go_simp; (try with_reducible rfl))
                (try simp only [Act.put, List.setIfInBounds_toArray, List.set_cons_zero, List.set_cons_succ])
                refine wpAnyH_tk (i := 17) (v := ?_) rfl (by kernel_rfl) (fun _ _ _ h => h) (by rfl) ?_ (by assumption) ?_
                rotate_left
                · (intro w hSw; (try dsimp only at hSw); go_simp; (try with_reducible rfl))
                (try simp only [Act.put, List.setIfInBounds_toArray, List.set_cons_zero, List.set_cons_succ])
                refine wpAnyH_tk (i := 18) (v := ?_) rfl (by kernel_rfl) (fun _ _ _ h => h) (by rfl) ?_ (by assumption) ?_
                rotate_left
                · (intro w hSw; (try dsimp only at hSw); go_simp; (try with_reducible rfl))
                (try simp only [Act.put, List.setIfInBounds_toArray, List.set_cons_zero, List.set_cons_succ])
                refine wpAnyH_tk (i := 19) (v := ?_) rfl (by kernel_rfl) (fun _ _ _ h => h) (by rfl) ?_ (by assumption) ?_
                rotate_left
                · (intro w hSw; (try dsimp only at hSw); go_simp; (try with_reducible rfl))
                (try simp only [Act.put, List.setIfInBounds_toArray, List.set_cons_zero, List.set_cons_succ])
                refine wpAnyH_done (by kernel_rfl) ?_ _
                have hbel6 := hbel5.drew
                obtain ⟨w6, hw6⟩ : ∃ w6, w6 = w5.drew := ⟨_, rfl⟩
                rw [← hw6] at hbel6 ⊢
                clear hw6 hS
                have hs6 := hbel6.size
                clear hb5
                go_wp2_with fail
                refine (secs_any (fun k => k < w.heap.size) (some ⟨b, o, none⟩) n c rs _ (h.keep (Kp.of_below hbel6 (fun k hk => hk))) (by omega) (fun k hk => by omega)).mono ?_
                rintro e w7 ⟨v7, rfl, hown7, hb7⟩
                rw [secsE, hlb'.out]
                rw [secsA, hlb'.out] at hown7
                simp only [if_true] at hown7 ⊢
                obtain ⟨A7, c7, rfl, hc7, hm7⟩ := hown7.form
                obtain ⟨q, hq⟩ : ∃ q, q = (allSecs rs).length := ⟨_, rfl⟩
                rw [← hq] at hown7 hc7 ⊢
                have hqq : q ≤ 4000 := by rw [hq]; exact hlen.out
                have hq' := hid hq
                have hs7 := hb7.size
                have hbel7 := hbel6.trans (hb7.mono hs6)
                have hrd7 := hid hown7.rd
                clear hown7 hq
                go_wp2_with fail
                refine wp_region_held_drew (S := (fun w8 : World => Below w.heap.size w w8)) (by kernel_rfl) (by exact hbel7.drew) (fun hHeld => ?_)
                refine wpAnyH_tk (i := 1) (v := ?_) rfl (by kernel_rfl) (fun _ _ _ h => h) (by rfl) ?_ (by assumption) ?_
                rotate_left
                · (intro w hSw; (try dsimp only at hSw); go_simp; (try with_reducible rfl))
                (try simp only [Act.put, List.setIfInBounds_toArray, List.set_cons_zero, List.set_cons_succ])
                refine wpAnyH_tk (i := 3) (v := ?_) rfl (by kernel_rfl) (fun _ _ _ h => h) (by rfl) ?_ (by assumption) ?_
                rotate_left
                · (intro w hSw; (try dsimp only at hSw); go_simp; (try with_reducible rfl))
                (try simp only [Act.put, List.setIfInBounds_toArray, List.set_cons_zero, List.set_cons_succ])
                refine wpAnyH_tk (i := 5) (v := ?_) rfl (by kernel_rfl) (fun _ _ _ h => h) (by rfl) ?_ (by assumption) ?_
                rotate_left
                · (intro w hSw; (try dsimp only at hSw); go_simp; (try with_reducible rfl))
                (try simp only [Act.put, List.setIfInBounds_toArray, List.set_cons_zero, List.set_cons_succ])
                refine wpAnyH_tk (i := 6) (v := ?_) rfl (by kernel_rfl) (fun _ _ _ h => h) (by rfl) ?_ (by assumption) ?_
                rotate_left
                · (intro w hSw; (try dsimp only at hSw); go_simp; (try with_reducible rfl))
                (try simp only [Act.put, List.setIfInBounds_toArray, List.set_cons_zero, List.set_cons_succ])
                refine wpAnyH_tk (i := 7) (v := ?_) rfl (by kernel_rfl) (fun _ _ _ h => h) (by rfl) ?_ (by assumption) ?_
                rotate_left
                · (intro w hSw; (try dsimp only at hSw); go_simp; (try with_reducible rfl))
                (try simp only [Act.put, List.setIfInBounds_toArray, List.set_cons_zero, List.set_cons_succ])
                refine wpAnyH_tk (i := 8) (v := ?_) rfl (by kernel_rfl) (fun _ _ _ h => h) (by rfl) ?_ (by assumption) ?_
                rotate_left
                · (intro w hSw; have y0 := (World.cell?_of_block (hSw.block b hbF)).trans hg0; go_simp; (try with_reducible rfl))
                (try simp only [Act.put, List.setIfInBounds_toArray, List.set_cons_zero, List.set_cons_succ])
                refine wpAnyH_cl (i := 0) rfl (by kernel_rfl) (fun K hK => ?_)
                go_simp
                refine hK.out _ _ (by exact hbel7.drew.alloc (show w.heap.size ≤ w7.heap.size by omega) _) (fun hHeld => ?_)
                clear hK K
                (try simp only [Act.put, List.setIfInBounds_toArray, List.set_cons_zero, List.set_cons_succ])
                have hkA : Kp (fun k => k < w7.heap.size ∧ (False ∨ w6.heap.size ≤ k)) w7 (w7.drew.alloc (.cells #[] 25)) := fun k hk => Below.heap_alloc w7.drew _ k hk.1
                have hbelA : Below w.heap.size w (w7.drew.alloc (.cells #[] 25)) := hbel7.drew.alloc (show w.heap.size ≤ w7.heap.size by omega) _
                have hzA : (w7.drew.alloc (.cells #[] 25)).heap.size = w7.heap.size + 1 := by simp
                refine wpAnyH_cl (i := 2) rfl (by kernel_rfl) (fun K hK => ?_)
                (refine step_apSs rfl _ _ rfl w.heap.size (fun k => k < w.heap.size) (.slice (some ⟨w7.heap.size, 0, none⟩) 0 0) [] rfl (OwnS.made (w := w7.drew) (show w.heap.size ≤ w7.heap.size by omega)) _ A7 q c7 (allSecs rs) rfl (hrd7.out.keep hkA) (fun k hk => ⟨by have := hk.1; show k < (w7.alloc (.cells #[] 25)).heap.size; simp; omega, .inr (by rcases hk.2 with h | h; exact h.elim; omega), fun e => by have := hk.1; simp [Value.ownBlock] at e; omega⟩) (by rw [← hq'.out]; simp; omega) (by show w.heap.size ≤ (w7.alloc (.cells #[] 25)).heap.size; simp; omega) ?_; intro v8 w8 hown8 hg8 hat8; have hbel8 := hbelA.grown hg8 (by show w.heap.size ≤ (w7.alloc (.cells #[] 25)).heap.size; simp; omega) (fun k hk => by simp [Value.ownBlock] at hk; omega); have hs8 := hbel8.size; rw [List.nil_append] at hown8)
                refine hK.out _ _ (by exact hbel8) (fun hHeld => ?_)
                clear hK K
                (try simp only [Act.put, List.setIfInBounds_toArray, List.set_cons_zero, List.set_cons_succ])
                refine wpAnyH_cl (i := 4) rfl (by kernel_rfl) (fun K hK => ?_)
                (refine step_apSs rfl _ _ rfl w.heap.size (fun k => k < w.heap.size) v8 (allSecs rs) rfl hown8 (fun k => k < w.heap.size) B m d tail rfl (ht.keep (Kp.of_below hbel8 (fun k hk => hk))) (fun k hk => ⟨by omega, .inl hk, fun e => by have := (hown8.lt k e).1; omega⟩) (by rw [← hq'.out]; omega) (by omega) ?_; intro v9 w9 hown9 hg9 hat9; have hbel9 := hbel8.grown hg9 hs8 (fun k hk => (hown8.lt k hk).1); have hs9 := hbel9.size; obtain ⟨A9, c9, rfl, hc9, hm9⟩ := hown9.form; obtain ⟨qt, hqt⟩ : ∃ qt, qt = (allSecs rs ++ tail).length := ⟨_, rfl⟩; rw [← hqt] at hown9 hc9 ⊢; clear hqt)
                refine hK.out _ _ (by exact hbel9) (fun hHeld => ?_)
                clear hK K
                (try simp only [Act.put, List.setIfInBounds_toArray, List.set_cons_zero, List.set_cons_succ])
                have hz8 : w7.heap.size + 1 ≤ w8.heap.size := by have := hg8.size; have h2 : (w7.alloc (.cells #[] 25)).heap.size ≤ w8.heap.size := this; simp at h2; omega
                have hk79 : Kp (fun k => k < w7.heap.size ∧ (False ∨ w6.heap.size ≤ k)) w7 w9 := fun k hk => (hg9.block k (by have := hk.1; omega) (fun e => by rcases hat8 with h | h <;> rw [h] at e <;> simp [Value.ownBlock] at e <;> (have := hk.1; omega))).trans ((hg8.block k (by have := hk.1; show k < (w7.alloc (.cells #[] 25)).heap.size; simp; omega) (fun e => by simp [Value.ownBlock] at e; have := hk.1; omega)).trans (hkA k hk))
                refine wpAnyH_cl (i := 9) rfl (by kernel_rfl) (fun K hK => ?_)
                go_simp
                (refine (scan_any _ A9 _ c9 (allSecs rs ++ tail) y.gen _ hown9.rd hc9 hm9 (fun s hs => by rcases List.mem_append.1 hs with hs | hs; (have := hsh.out s hs; omega); (have := hl1'.out s hs; omega)) (by rw [List.length_append, ← hq'.out]; omega) (fun k hk => hk.1)).mono ?_; rintro e w10 ⟨v10, rfl, hown10, hb10⟩; rw [scan_back hlog.out hst.out] at hown10 ⊢; obtain ⟨A10, c10, rfl, hc10, hm10⟩ := hown10.form; rw [← hn.out] at hown10 hc10 ⊢; rw [← hq'.out]; have hbel10 := hbel9.trans (hb10.mono hs9))
                (try (go_wp2_with fail))
                refine hK.out _ _ (by exact hbel10) (fun hHeld => ?_)
                clear hK K
                (try simp only [Act.put, List.setIfInBounds_toArray, List.set_cons_zero, List.set_cons_succ])
                refine wpAnyH_tk (i := 10) (v := ?_) rfl (by kernel_rfl) (fun _ _ _ h => h) (by rfl) ?_ (by assumption) ?_
                rotate_left
                · (intro w hSw; (try dsimp only at hSw); go_simp; (try with_reducible rfl))
                (try simp only [Act.put, List.setIfInBounds_toArray, List.set_cons_zero, List.set_cons_succ])
                refine wpAnyH_tk (i := 11) (v := ?_) rfl (by kernel_rfl) (fun _ _ _ h => h) (by rfl) ?_ (by assumption) ?_
                rotate_left
                · (intro w hSw; (try dsimp only at hSw); go_simp; (try with_reducible rfl))
                (try simp only [Act.put, List.setIfInBounds_toArray, List.set_cons_zero, List.set_cons_succ])
                refine wpAnyH_tk (i := 12) (v := ?_) rfl (by kernel_rfl) (fun _ _ _ h => h) (by rfl) ?_ (by assumption) ?_
                rotate_left
                · (intro w hSw; (try dsimp only at hSw); go_simp; (try with_reducible rfl))
                (try simp only [Act.put, List.setIfInBounds_toArray, List.set_cons_zero, List.set_cons_succ])
                refine wpAnyH_tk (i := 13) (v := ?_) rfl (by kernel_rfl) (fun _ _ _ h => h) (by rfl) ?_ (by assumption) ?_
                rotate_left
                · (intro w hSw; (try dsimp only at hSw); go_simp; (try with_reducible rfl))
                (try simp only [Act.put, List.setIfInBounds_toArray, List.set_cons_zero, List.set_cons_succ])
                refine wpAnyH_tk (i := 14) (v := ?_) rfl (by kernel_rfl) (fun _ _ _ h => h) (by rfl) ?_ (by assumption) ?_
                rotate_left
                · (intro w hSw; (try dsimp only at hSw); go_simp; (try with_reducible rfl))
                (try simp only [Act.put, List.setIfInBounds_toArray, List.set_cons_zero, List.set_cons_succ])
                refine wpAnyH_done (by kernel_rfl) ?_ _
                have hs10 := hb10.size
                have y0 := (World.cell?_of_block (hbel10.block b hbF)).trans hg0
                have hrd7' := hid ((hrd7.out.keep hk79).keep (w' := w10) (fun k hk => hb10.block k (by have := hg9.size; have := hk.1; omega)))
                have hrd10 := hid hown10.rd
                have hs79 : w7.heap.size ≤ w10.heap.size := by have := hg9.size; omega
                clear hown10 hkA hown8 hown9 hg8 hg9 hat8 hat9 hk79
                go_wp2_with fail
                refine (scan_any _ A7 q c7 (allSecs rs) g2 _ hrd7'.out hc7 hm7 (fun s hs => by have := hsh.out s hs; omega) (by rw [← hq'.out]; omega) (fun k hk => by have := hk.1; omega)).mono ?_
                rintro e w11 ⟨v11, rfl, hown11, hb11⟩
                rw [scan_other_ hlog.out hy'.out hg2.out] at hown11 ⊢
                obtain ⟨A11, c11, rfl, hc11, hm11⟩ := hown11.form
                have hs11 := hb11.size
                have hbel11 := hbel10.trans (hb11.mono (by omega))
                have hrd10' := hid (hrd10.out.keep (Kp.of_below hb11 (fun k hk => hk.1)))
                clear hown11
                go_wp2_with fail
                refine (sameAll_any _ _ A10 (some ⟨b, o, none⟩) _ c10 _ c rs rs _ hrd10'.out (h.keep (Kp.of_below hbel11 (fun k hk => hk))) (by omega) (fun k hk => by have := hk.1; omega) (fun k hk => by omega)).mono ?_
                rintro e w12 ⟨rfl, hb12⟩
                rw [decide_eq_true (rfl : rs = rs)]
                have hbel12 := hbel11.trans (hb12.mono (by omega))
                go_wp2_with fail
                go_ret
                exact ⟨by simp, hbel12⟩
            · have hgi : ¬ (x.gen : Int) = (y.gen : Int) := by omega
              have hgi1 : ((x.gen : Int) == (y.gen : Int)) = false := by simpa using hgi
              have hst := hid (show scanOk tail y.gen rs.length = false by unfold scanOk; rw [← hd'.out, ← hn.out]; exact decide_eq_false (fun e => hgg e.2.1))
              clear hgg
              go_wp2_with fail
              refine wp_region_held_drew (S := (fun w6 : World => Blk w6 w4.heap.size 27 (recCells x Aw nw cw Am nm cm An nn cn) ∧ Below w.heap.size w w6)) (by kernel_rfl) (by exact hS) (fun hHeld => ?_)
              refine wpAnyH_tk (i := 0) (v := ?_) rfl (by kernel_rfl) (fun _ _ _ h => h) (by rfl) ?_ (by assumption) ?_
              rotate_left
              · (intro w hSw; (try dsimp only at hSw); go_simp; (try with_reducible rfl))
              (try simp only [Act.put, List.setIfInBounds_toArray, List.set_cons_zero, List.set_cons_succ])
              refine wpAnyH_tk (i := 1) (v := ?_) rfl (by kernel_rfl) (fun _ _ _ h => h) (by rfl) ?_ (by assumption) ?_
              rotate_left
              · (intro w hSw; (try dsimp only at hSw); go_simp; (try with_reducible rfl))
              (try simp only [Act.put, List.setIfInBounds_toArray, List.set_cons_zero, List.set_cons_succ])
              refine wpAnyH_tk (i := 2) (v := ?_) rfl (by kernel_rfl) (fun _ _ _ h => h) (by rfl) ?_ (by assumption) ?_
              rotate_left
              · (intro w hSw; (try dsimp only at hSw); go_simp; (try with_reducible rfl))
              (try simp only [Act.put, List.setIfInBounds_toArray, List.set_cons_zero, List.set_cons_succ])
              refine wpAnyH_tk (i := 3) (v := ?_) rfl (by kernel_rfl) (fun _ _ _ h => h) (by rfl) ?_ (by assumption) ?_
              rotate_left
              · (intro w hSw; (try dsimp only at hSw); go_simp; (try with_reducible rfl))
              (try simp only [Act.put, List.setIfInBounds_toArray, List.set_cons_zero, List.set_cons_succ])
              refine wpAnyH_tk (i := 5) (v := ?_) rfl (by kernel_rfl) (fun _ _ _ h => h) (by rfl) ?_ (by assumption) ?_
              rotate_left
              · (intro w hSw; (try dsimp only at hSw); go_simp; (try with_reducible rfl))
              (try simp only [Act.put, List.setIfInBounds_toArray, List.set_cons_zero, List.set_cons_succ])
              refine wpAnyH_tk (i := 6) (v := ?_) rfl (by kernel_rfl) (fun _ _ _ h => h) (by rfl) ?_ (by assumption) ?_
              rotate_left
              · (intro w hSw; (try dsimp only at hSw); go_simp; (try with_reducible rfl))
              (try simp only [Act.put, List.setIfInBounds_toArray, List.set_cons_zero, List.set_cons_succ])
              refine wpAnyH_tk (i := 7) (v := ?_) rfl (by kernel_rfl) (fun _ _ _ h => h) (by rfl) ?_ (by assumption) ?_
              rotate_left
              · (intro w hSw; (try dsimp only at hSw); go_simp; (try with_reducible rfl))
              (try simp only [Act.put, List.setIfInBounds_toArray, List.set_cons_zero, List.set_cons_succ])
              refine wpAnyH_tk (i := 4) (v := ?_) rfl (by kernel_rfl) (fun _ _ _ h => h) (by rfl) ?_ (by assumption) ?_
              rotate_left
              · (intro w hSw; (obtain ⟨ya, yb⟩ := hSw; obtain ⟨y0, y1, y2, y3, y4⟩ := ya.rec5; have y5 := (World.cell?_of_block (yb.block b hbF)).trans hg0; clear ya yb); go_simp; (try with_reducible rfl))
              (try simp only [Act.put, List.setIfInBounds_toArray, List.set_cons_zero, List.set_cons_succ])
              refine wpAnyH_tk (i := 8) (v := ?_) rfl (by kernel_rfl) (fun _ _ _ h => h) (by rfl) ?_ (by assumption) ?_
              rotate_left
              · (intro w hSw; (obtain ⟨ya, yb⟩ := hSw; obtain ⟨y0, y1, y2, y3, y4⟩ := ya.rec5; have y5 := (World.cell?_of_block (yb.block b hbF)).trans hg0; clear ya yb); go_simp; (try with_reducible rfl))
              (try simp only [Act.put, List.setIfInBounds_toArray, List.set_cons_zero, List.set_cons_succ])
              refine wpAnyH_tk (i := 9) (v := ?_) rfl (by kernel_rfl) (fun _ _ _ h => h) (by rfl) ?_ (by assumption) ?_
              rotate_left
              · (intro w hSw; (try dsimp only at hSw); go_simp; (try with_reducible rfl))
              (try simp only [Act.put, List.setIfInBounds_toArray, List.set_cons_zero, List.set_cons_succ])
              refine wpAnyH_tk (i := 10) (v := ?_) rfl (by kernel_rfl) (fun _ _ _ h => h) (by rfl) ?_ (by assumption) ?_
              rotate_left
              · (intro w hSw; (try dsimp only at hSw); go_simp; (try with_reducible rfl))
              (try simp only [Act.put, List.setIfInBounds_toArray, List.set_cons_zero, List.set_cons_succ])
              refine wpAnyH_tk (i := 11) (v := ?_) rfl (by kernel_rfl) (fun _ _ _ h => h) (by rfl) ?_ (by assumption) ?_
              rotate_left
              · (intro w hSw; (try dsimp only at hSw); go_simp; (try with_reducible rfl))
              (try simp only [Act.put, List.setIfInBounds_toArray, List.set_cons_zero, List.set_cons_succ])
              refine wpAnyH_sk (i := 12) rfl (by kernel_rfl) (fun _ _ _ h => h) (by rfl) (by assumption) ?_
              (try simp only [Act.put, List.setIfInBounds_toArray, List.set_cons_zero, List.set_cons_succ])
              refine wpAnyH_sk (i := 13) rfl (by kernel_rfl) (fun _ _ _ h => h) (by rfl) (by assumption) ?_
              (try simp only [Act.put, List.setIfInBounds_toArray, List.set_cons_zero, List.set_cons_succ])
              refine wpAnyH_sk (i := 14) rfl (by kernel_rfl) (fun _ _ _ h => h) (by rfl) (by assumption) ?_
              (try simp only [Act.put, List.setIfInBounds_toArray, List.set_cons_zero, List.set_cons_succ])
              refine wpAnyH_sk (i := 15) rfl (by kernel_rfl) (fun _ _ _ h => h) (by rfl) (by assumption) ?_
              (try simp only [Act.put, List.setIfInBounds_toArray, List.set_cons_zero, List.set_cons_succ])
              refine wpAnyH_sk (i := 16) rfl (by kernel_rfl) (fun _ _ _ h => h) (by rfl) (by assumption) ?_
              (try simp only [Act.put, List.setIfInBounds_toArray, List.set_cons_zero, List.set_cons_succ])
              refine wpAnyH_sk (i := 17) rfl (by kernel_rfl) (fun _ _ _ h => h) (by rfl) (by assumption) ?_
              (try simp only [Act.put, List.setIfInBounds_toArray, List.set_cons_zero, List.set_cons_succ])
              refine wpAnyH_sk (i := 18) rfl (by kernel_rfl) (fun _ _ _ h => h) (by rfl) (by assumption) ?_
              (try simp only [Act.put, List.setIfInBounds_toArray, List.set_cons_zero, List.set_cons_succ])
              refine wpAnyH_tk (i := 19) (v := ?_) rfl (by kernel_rfl) (fun _ _ _ h => h) (by rfl) ?_ (by assumption) ?_
              rotate_left
              · (intro w hSw; (try dsimp only at hSw); go_simp; (try with_reducible rfl))
              (try simp only [Act.put, List.setIfInBounds_toArray, List.set_cons_zero, List.set_cons_succ])
              refine wpAnyH_done (by kernel_rfl) ?_ _
              have hbel6 := hbel5.drew
              obtain ⟨w6, hw6⟩ : ∃ w6, w6 = w5.drew := ⟨_, rfl⟩
              rw [← hw6] at hbel6 ⊢
              clear hw6 hS
              have hs6 := hbel6.size
              clear hb5
              go_wp2_with fail
              refine (secs_any (fun k => k < w.heap.size) (some ⟨b, o, none⟩) n c rs _ (h.keep (Kp.of_below hbel6 (fun k hk => hk))) (by omega) (fun k hk => by omega)).mono ?_
              rintro e w7 ⟨v7, rfl, hown7, hb7⟩
              rw [secsE, hlb'.out]
              rw [secsA, hlb'.out] at hown7
              simp only [if_true] at hown7 ⊢
              obtain ⟨A7, c7, rfl, hc7, hm7⟩ := hown7.form
              obtain ⟨q, hq⟩ : ∃ q, q = (allSecs rs).length := ⟨_, rfl⟩
              rw [← hq] at hown7 hc7 ⊢
              have hqq : q ≤ 4000 := by rw [hq]; exact hlen.out
              have hq' := hid hq
              have hs7 := hb7.size
              have hbel7 := hbel6.trans (hb7.mono hs6)
              have hrd7 := hid hown7.rd
              clear hown7 hq
              go_wp2_with fail
              refine wp_region_held_drew (S := (fun w8 : World => Below w.heap.size w w8)) (by kernel_rfl) (by exact hbel7.drew) (fun hHeld => ?_)
              refine wpAnyH_tk (i := 1) (v := ?_) rfl (by kernel_rfl) (fun _ _ _ h => h) (by rfl) ?_ (by assumption) ?_
              rotate_left
              · (intro w hSw; (try dsimp only at hSw); go_simp; (try with_reducible rfl))
              (try simp only [Act.put, List.setIfInBounds_toArray, List.set_cons_zero, List.set_cons_succ])
              refine wpAnyH_tk (i := 3) (v := ?_) rfl (by kernel_rfl) (fun _ _ _ h => h) (by rfl) ?_ (by assumption) ?_
              rotate_left
              · (intro w hSw; (try dsimp only at hSw); go_simp; (try with_reducible rfl))
              (try simp only [Act.put, List.setIfInBounds_toArray, List.set_cons_zero, List.set_cons_succ])
              refine wpAnyH_tk (i := 5) (v := ?_) rfl (by kernel_rfl) (fun _ _ _ h => h) (by rfl) ?_ (by assumption) ?_
              rotate_left
              · (intro w hSw; (try dsimp only at hSw); go_simp; (try with_reducible rfl))
              (try simp only [Act.put, List.setIfInBounds_toArray, List.set_cons_zero, List.set_cons_succ])
              refine wpAnyH_tk (i := 6) (v := ?_) rfl (by kernel_rfl) (fun _ _ _ h => h) (by rfl) ?_ (by assumption) ?_
              rotate_left
              · (intro w hSw; (try dsimp only at hSw); go_simp; (try with_reducible rfl))
              (try simp only [Act.put, List.setIfInBounds_toArray, List.set_cons_zero, List.set_cons_succ])
              refine wpAnyH_tk (i := 7) (v := ?_) rfl (by kernel_rfl) (fun _ _ _ h => h) (by rfl) ?_ (by assumption) ?_
              rotate_left
              · (intro w hSw; (try dsimp only at hSw); go_simp; (try with_reducible rfl))
              (try simp only [Act.put, List.setIfInBounds_toArray, List.set_cons_zero, List.set_cons_succ])
              refine wpAnyH_tk (i := 8) (v := ?_) rfl (by kernel_rfl) (fun _ _ _ h => h) (by rfl) ?_ (by assumption) ?_
              rotate_left
              · (intro w hSw; have y0 := (World.cell?_of_block (hSw.block b hbF)).trans hg0; go_simp; (try with_reducible rfl))
              (try simp only [Act.put, List.setIfInBounds_toArray, List.set_cons_zero, List.set_cons_succ])
              refine wpAnyH_cl (i := 0) rfl (by kernel_rfl) (fun K hK => ?_)
              go_simp
              refine hK.out _ _ (by exact hbel7.drew.alloc (show w.heap.size ≤ w7.heap.size by omega) _) (fun hHeld => ?_)
              clear hK K
              (try simp only [Act.put, List.setIfInBounds_toArray, List.set_cons_zero, List.set_cons_succ])
              have hkA : Kp (fun k => k < w7.heap.size ∧ (False ∨ w6.heap.size ≤ k)) w7 (w7.drew.alloc (.cells #[] 25)) := fun k hk => Below.heap_alloc w7.drew _ k hk.1
              have hbelA : Below w.heap.size w (w7.drew.alloc (.cells #[] 25)) := hbel7.drew.alloc (show w.heap.size ≤ w7.heap.size by omega) _
              have hzA : (w7.drew.alloc (.cells #[] 25)).heap.size = w7.heap.size + 1 := by simp
              refine wpAnyH_cl (i := 2) rfl (by kernel_rfl) (fun K hK => ?_)
              (refine step_apSs rfl _ _ rfl w.heap.size (fun k => k < w.heap.size) (.slice (some ⟨w7.heap.size, 0, none⟩) 0 0) [] rfl (OwnS.made (w := w7.drew) (show w.heap.size ≤ w7.heap.size by omega)) _ A7 q c7 (allSecs rs) rfl (hrd7.out.keep hkA) (fun k hk => ⟨by have := hk.1; show k < (w7.alloc (.cells #[] 25)).heap.size; simp; omega, .inr (by rcases hk.2 with h | h; exact h.elim; omega), fun e => by have := hk.1; simp [Value.ownBlock] at e; omega⟩) (by rw [← hq'.out]; simp; omega) (by show w.heap.size ≤ (w7.alloc (.cells #[] 25)).heap.size; simp; omega) ?_; intro v8 w8 hown8 hg8 hat8; have hbel8 := hbelA.grown hg8 (by show w.heap.size ≤ (w7.alloc (.cells #[] 25)).heap.size; simp; omega) (fun k hk => by simp [Value.ownBlock] at hk; omega); have hs8 := hbel8.size; rw [List.nil_append] at hown8)
              refine hK.out _ _ (by exact hbel8) (fun hHeld => ?_)
              clear hK K
              (try simp only [Act.put, List.setIfInBounds_toArray, List.set_cons_zero, List.set_cons_succ])
              refine wpAnyH_cl (i := 4) rfl (by kernel_rfl) (fun K hK => ?_)
              (refine step_apSs rfl _ _ rfl w.heap.size (fun k => k < w.heap.size) v8 (allSecs rs) rfl hown8 (fun k => k < w.heap.size) B m d tail rfl (ht.keep (Kp.of_below hbel8 (fun k hk => hk))) (fun k hk => ⟨by omega, .inl hk, fun e => by have := (hown8.lt k e).1; omega⟩) (by rw [← hq'.out]; omega) (by omega) ?_; intro v9 w9 hown9 hg9 hat9; have hbel9 := hbel8.grown hg9 hs8 (fun k hk => (hown8.lt k hk).1); have hs9 := hbel9.size; obtain ⟨A9, c9, rfl, hc9, hm9⟩ := hown9.form; obtain ⟨qt, hqt⟩ : ∃ qt, qt = (allSecs rs ++ tail).length := ⟨_, rfl⟩; rw [← hqt] at hown9 hc9 ⊢; clear hqt)
              refine hK.out _ _ (by exact hbel9) (fun hHeld => ?_)
              clear hK K
              (try simp only [Act.put, List.setIfInBounds_toArray, List.set_cons_zero, List.set_cons_succ])
              have hz8 : w7.heap.size + 1 ≤ w8.heap.size := by have := hg8.size; have h2 : (w7.alloc (.cells #[] 25)).heap.size ≤ w8.heap.size := this; simp at h2; omega
              have hk79 : Kp (fun k => k < w7.heap.size ∧ (False ∨ w6.heap.size ≤ k)) w7 w9 := fun k hk => (hg9.block k (by have := hk.1; omega) (fun e => by rcases hat8 with h | h <;> rw [h] at e <;> simp [Value.ownBlock] at e <;> (have := hk.1; omega))).trans ((hg8.block k (by have := hk.1; show k < (w7.alloc (.cells #[] 25)).heap.size; simp; omega) (fun e => by simp [Value.ownBlock] at e; have := hk.1; omega)).trans (hkA k hk))
              refine wpAnyH_cl (i := 9) rfl (by kernel_rfl) (fun K hK => ?_)
              go_simp
              (refine (scan_any _ A9 _ c9 (allSecs rs ++ tail) y.gen _ hown9.rd hc9 hm9 (fun s hs => by rcases List.mem_append.1 hs with hs | hs; (have := hsh.out s hs; omega); (have := hl1'.out s hs; omega)) (by rw [List.length_append, ← hq'.out]; omega) (fun k hk => hk.1)).mono ?_; rintro e w10 ⟨v10, rfl, hown10, hb10⟩; rw [scan_back hlog.out hst.out] at hown10 ⊢; obtain ⟨A10, c10, rfl, hc10, hm10⟩ := hown10.form; rw [← hn.out] at hown10 hc10 ⊢; rw [← hq'.out]; have hbel10 := hbel9.trans (hb10.mono hs9))
              (try (go_wp2_with fail))
              refine hK.out _ _ (by exact hbel10) (fun hHeld => ?_)
              clear hK K
              (try simp only [Act.put, List.setIfInBounds_toArray, List.set_cons_zero, List.set_cons_succ])
              refine wpAnyH_tk (i := 10) (v := ?_) rfl (by kernel_rfl) (fun _ _ _ h => h) (by rfl) ?_ (by assumption) ?_
              rotate_left
              · (intro w hSw; (try dsimp only at hSw); go_simp; (try with_reducible rfl))
              (try simp only [Act.put, List.setIfInBounds_toArray, List.set_cons_zero, List.set_cons_succ])
              refine wpAnyH_tk (i := 11) (v := ?_) rfl (by kernel_rfl) (fun _ _ _ h => h) (by rfl) ?_ (by assumption) ?_
              rotate_left
              · (intro w hSw; (try dsimp only at hSw); go_simp; (try with_reducible rfl))
              (try simp only [Act.put, List.setIfInBounds_toArray, List.set_cons_zero, List.set_cons_succ])
              refine wpAnyH_tk (i := 12) (v := ?_) rfl (by kernel_rfl) (fun _ _ _ h => h) (by rfl) ?_ (by assumption) ?_
              rotate_left
              · (intro w hSw; (try dsimp only at hSw); go_simp; (try with_reducible rfl))
              (try simp only [Act.put, List.setIfInBounds_toArray, List.set_cons_zero, List.set_cons_succ])
              refine wpAnyH_tk (i := 13) (v := ?_) rfl (by kernel_rfl) (fun _ _ _ h => h) (by rfl) ?_ (by assumption) ?_
              rotate_left
              · (intro w hSw; (try dsimp only at hSw); go_simp; (try with_reducible rfl))
              (try simp only [Act.put, List.setIfInBounds_toArray, List.set_cons_zero, List.set_cons_succ])
              refine wpAnyH_tk (i := 14) (v := ?_) rfl (by kernel_rfl) (fun _ _ _ h => h) (by rfl) ?_ (by assumption) ?_
              rotate_left
              · (intro w hSw; (try dsimp only at hSw); go_simp; (try with_reducible rfl))
              (try simp only [Act.put, List.setIfInBounds_toArray, List.set_cons_zero, List.set_cons_succ])
              refine wpAnyH_done (by kernel_rfl) ?_ _
              have hs10 := hb10.size
              have y0 := (World.cell?_of_block (hbel10.block b hbF)).trans hg0
              have hrd7' := hid ((hrd7.out.keep hk79).keep (w' := w10) (fun k hk => hb10.block k (by have := hg9.size; have := hk.1; omega)))
              have hrd10 := hid hown10.rd
              have hs79 : w7.heap.size ≤ w10.heap.size := by have := hg9.size; omega
              clear hown10 hkA hown8 hown9 hg8 hg9 hat8 hat9 hk79
              go_wp2_with fail
              refine (scan_any _ A7 q c7 (allSecs rs) g2 _ hrd7'.out hc7 hm7 (fun s hs => by have := hsh.out s hs; omega) (by rw [← hq'.out]; omega) (fun k hk => by have := hk.1; omega)).mono ?_
              rintro e w11 ⟨v11, rfl, hown11, hb11⟩
              rw [scan_other_ hlog.out hy'.out hg2.out] at hown11 ⊢
              obtain ⟨A11, c11, rfl, hc11, hm11⟩ := hown11.form
              have hs11 := hb11.size
              have hbel11 := hbel10.trans (hb11.mono (by omega))
              have hrd10' := hid (hrd10.out.keep (Kp.of_below hb11 (fun k hk => hk.1)))
              clear hown11
              go_wp2_with fail
              refine (sameAll_any _ _ A10 (some ⟨b, o, none⟩) _ c10 _ c rs rs _ hrd10'.out (h.keep (Kp.of_below hbel11 (fun k hk => hk))) (by omega) (fun k hk => by have := hk.1; omega) (fun k hk => by omega)).mono ?_
              rintro e w12 ⟨rfl, hb12⟩
              rw [decide_eq_true (rfl : rs = rs)]
              have hbel12 := hbel11.trans (hb12.mono (by omega))
              go_wp2_with fail
              go_ret
              exact ⟨by simp, hbel12⟩
          · have hci : (cc == 0) = false := by simpa using hc0
            have hst := hid (show scanOk tail y.gen rs.length = false by unfold scanOk; rw [← hd'.out]; exact decide_eq_false (fun e => hc0 e.1))
            go_wp2_with fail
            refine wp_region_held_drew (S := (fun w6 : World => Blk w6 w4.heap.size 27 (recCells x Aw nw cw Am nm cm An nn cn) ∧ Below w.heap.size w w6)) (by kernel_rfl) (by exact hS) (fun hHeld => ?_)
            refine wpAnyH_tk (i := 0) (v := ?_) rfl (by kernel_rfl) (fun _ _ _ h => h) (by rfl) ?_ (by assumption) ?_
            rotate_left
            · (intro w hSw; (try dsimp only at hSw); go_simp; (try with_reducible rfl))
            (try simp only [Act.put, List.setIfInBounds_toArray, List.set_cons_zero, List.set_cons_succ])
            refine wpAnyH_tk (i := 1) (v := ?_) rfl (by kernel_rfl) (fun _ _ _ h => h) (by rfl) ?_ (by assumption) ?_
            rotate_left
            · (intro w hSw; (try dsimp only at hSw); go_simp; (try with_reducible rfl))
            (try simp only [Act.put, List.setIfInBounds_toArray, List.set_cons_zero, List.set_cons_succ])
            refine wpAnyH_tk (i := 2) (v := ?_) rfl (by kernel_rfl) (fun _ _ _ h => h) (by rfl) ?_ (by assumption) ?_
            rotate_left
            · (intro w hSw; (try dsimp only at hSw); go_simp; (try with_reducible rfl))
            (try simp only [Act.put, List.setIfInBounds_toArray, List.set_cons_zero, List.set_cons_succ])
            refine wpAnyH_sk (i := 3) rfl (by kernel_rfl) (fun _ _ _ h => h) (by rfl) (by assumption) ?_
            (try simp only [Act.put, List.setIfInBounds_toArray, List.set_cons_zero, List.set_cons_succ])
            refine wpAnyH_sk (i := 4) rfl (by kernel_rfl) (fun _ _ _ h => h) (by rfl) (by assumption) ?_
            (try simp only [Act.put, List.setIfInBounds_toArray, List.set_cons_zero, List.set_cons_succ])
            refine wpAnyH_sk (i := 5) rfl (by kernel_rfl) (fun _ _ _ h => h) (by rfl) (by assumption) ?_
            (try simp only [Act.put, List.setIfInBounds_toArray, List.set_cons_zero, List.set_cons_succ])
            refine wpAnyH_sk (i := 6) rfl (by kernel_rfl) (fun _ _ _ h => h) (by rfl) (by assumption) ?_
            (try simp only [Act.put, List.setIfInBounds_toArray, List.set_cons_zero, List.set_cons_succ])
            refine wpAnyH_sk (i := 7) rfl (by kernel_rfl) (fun _ _ _ h => h) (by rfl) (by assumption) ?_
            (try simp only [Act.put, List.setIfInBounds_toArray, List.set_cons_zero, List.set_cons_succ])
            refine wpAnyH_sk (i := 8) rfl (by kernel_rfl) (fun _ _ _ h => h) (by rfl) (by assumption) ?_
            (try simp only [Act.put, List.setIfInBounds_toArray, List.set_cons_zero, List.set_cons_succ])
            refine wpAnyH_sk (i := 9) rfl (by kernel_rfl) (fun _ _ _ h => h) (by rfl) (by assumption) ?_
            (try simp only [Act.put, List.setIfInBounds_toArray, List.set_cons_zero, List.set_cons_succ])
            refine wpAnyH_tk (i := 10) (v := ?_) rfl (by kernel_rfl) (fun _ _ _ h => h) (by rfl) ?_ (by assumption) ?_
            rotate_left
            · (intro w hSw; (try dsimp only at hSw); go_simp; (try with_reducible rfl))
            (try simp only [Act.put, List.setIfInBounds_toArray, List.set_cons_zero, List.set_cons_succ])
            refine wpAnyH_tk (i := 11) (v := ?_) rfl (by kernel_rfl) (fun _ _ _ h => h) (by rfl) ?_ (by assumption) ?_
            rotate_left
            · (intro w hSw; (try dsimp only at hSw); go_simp; (try with_reducible rfl))
            (try simp only [Act.put, List.setIfInBounds_toArray, List.set_cons_zero, List.set_cons_succ])
            refine wpAnyH_sk (i := 12) rfl (by kernel_rfl) (fun _ _ _ h => h) (by rfl) (by assumption) ?_
            (try simp only [Act.put, List.setIfInBounds_toArray, List.set_cons_zero, List.set_cons_succ])
            refine wpAnyH_sk (i := 13) rfl (by kernel_rfl) (fun _ _ _ h => h) (by rfl) (by assumption) ?_
            (try simp only [Act.put, List.setIfInBounds_toArray, List.set_cons_zero, List.set_cons_succ])
            refine wpAnyH_sk (i := 14) rfl (by kernel_rfl) (fun _ _ _ h => h) (by rfl) (by assumption) ?_
            (try simp only [Act.put, List.setIfInBounds_toArray, List.set_cons_zero, List.set_cons_succ])
            refine wpAnyH_sk (i := 15) rfl (by kernel_rfl) (fun _ _ _ h => h) (by rfl) (by assumption) ?_
            (try simp only [Act.put, List.setIfInBounds_toArray, List.set_cons_zero, List.set_cons_succ])
            refine wpAnyH_sk (i := 16) rfl (by kernel_rfl) (fun _ _ _ h => h) (by rfl) (by assumption) ?_
            (try simp only [Act.put, List.setIfInBounds_toArray, List.set_cons_zero, List.set_cons_succ])
            refine wpAnyH_sk (i := 17) rfl (by kernel_rfl) (fun _ _ _ h => h) (by rfl) (by assumption) ?_
            (try simp only [Act.put, List.setIfInBounds_toArray, List.set_cons_zero, List.set_cons_succ])
            refine wpAnyH_sk (i := 18) rfl (by kernel_rfl) (fun _ _ _ h => h) (by rfl) (by assumption) ?_
            (try simp only [Act.put, List.setIfInBounds_toArray, List.set_cons_zero, List.set_cons_succ])
            refine wpAnyH_tk (i := 19) (v := ?_) rfl (by kernel_rfl) (fun _ _ _ h => h) (by rfl) ?_ (by assumption) ?_
            rotate_left
            · (intro w hSw; (try dsimp only at hSw); go_simp; (try with_reducible rfl))
            (try simp only [Act.put, List.setIfInBounds_toArray, List.set_cons_zero, List.set_cons_succ])
            refine wpAnyH_done (by kernel_rfl) ?_ _
            have hbel6 := hbel5.drew
            obtain ⟨w6, hw6⟩ : ∃ w6, w6 = w5.drew := ⟨_, rfl⟩
            rw [← hw6] at hbel6 ⊢
            clear hw6 hS
            have hs6 := hbel6.size
            clear hb5
            go_wp2_with fail
            refine (secs_any (fun k => k < w.heap.size) (some ⟨b, o, none⟩) n c rs _ (h.keep (Kp.of_below hbel6 (fun k hk => hk))) (by omega) (fun k hk => by omega)).mono ?_
            rintro e w7 ⟨v7, rfl, hown7, hb7⟩
            rw [secsE, hlb'.out]
            rw [secsA, hlb'.out] at hown7
            simp only [if_true] at hown7 ⊢
            obtain ⟨A7, c7, rfl, hc7, hm7⟩ := hown7.form
            obtain ⟨q, hq⟩ : ∃ q, q = (allSecs rs).length := ⟨_, rfl⟩
            rw [← hq] at hown7 hc7 ⊢
            have hqq : q ≤ 4000 := by rw [hq]; exact hlen.out
            have hq' := hid hq
            have hs7 := hb7.size
            have hbel7 := hbel6.trans (hb7.mono hs6)
            have hrd7 := hid hown7.rd
            clear hown7 hq
            go_wp2_with fail
            refine wp_region_held_drew (S := (fun w8 : World => Below w.heap.size w w8)) (by kernel_rfl) (by exact hbel7.drew) (fun hHeld => ?_)
            refine wpAnyH_tk (i := 1) (v := ?_) rfl (by kernel_rfl) (fun _ _ _ h => h) (by rfl) ?_ (by assumption) ?_
            rotate_left
            · (intro w hSw; (try dsimp only at hSw); go_simp; (try with_reducible rfl))
            (try simp only [Act.put, List.setIfInBounds_toArray, List.set_cons_zero, List.set_cons_succ])
            refine wpAnyH_tk (i := 3) (v := ?_) rfl (by kernel_rfl) (fun _ _ _ h => h) (by rfl) ?_ (by assumption) ?_
            rotate_left
            · (intro w hSw; (try dsimp only at hSw); go_simp; (try with_reducible rfl))
            (try simp only [Act.put, List.setIfInBounds_toArray, List.set_cons_zero, List.set_cons_succ])
            refine wpAnyH_tk (i := 5) (v := ?_) rfl (by kernel_rfl) (fun _ _ _ h => h) (by rfl) ?_ (by assumption) ?_
            rotate_left
            · (intro w hSw; (try dsimp only at hSw); go_simp; (try with_reducible rfl))
            (try simp only [Act.put, List.setIfInBounds_toArray, List.set_cons_zero, List.set_cons_succ])
            refine wpAnyH_tk (i := 6) (v := ?_) rfl (by kernel_rfl) (fun _ _ _ h => h) (by rfl) ?_ (by assumption) ?_
            rotate_left
            · (intro w hSw; (try dsimp only at hSw); go_simp; (try with_reducible rfl))
            (try simp only [Act.put, List.setIfInBounds_toArray, List.set_cons_zero, List.set_cons_succ])
            refine wpAnyH_tk (i := 7) (v := ?_) rfl (by kernel_rfl) (fun _ _ _ h => h) (by rfl) ?_ (by assumption) ?_
            rotate_left
            · (intro w hSw; (try dsimp only at hSw); go_simp; (try with_reducible rfl))
            (try simp only [Act.put, List.setIfInBounds_toArray, List.set_cons_zero, List.set_cons_succ])
            refine wpAnyH_tk (i := 8) (v := ?_) rfl (by kernel_rfl) (fun _ _ _ h => h) (by rfl) ?_ (by assumption) ?_
            rotate_left
            · (intro w hSw; have y0 := (World.cell?_of_block (hSw.block b hbF)).trans hg0; go_simp; (try with_reducible rfl))
            (try simp only [Act.put, List.setIfInBounds_toArray, List.set_cons_zero, List.set_cons_succ])
            refine wpAnyH_cl (i := 0) rfl (by kernel_rfl) (fun K hK => ?_)
            go_simp
            refine hK.out _ _ (by exact hbel7.drew.alloc (show w.heap.size ≤ w7.heap.size by omega) _) (fun hHeld => ?_)
            clear hK K
            (try simp only [Act.put, List.setIfInBounds_toArray, List.set_cons_zero, List.set_cons_succ])
            have hkA : Kp (fun k => k < w7.heap.size ∧ (False ∨ w6.heap.size ≤ k)) w7 (w7.drew.alloc (.cells #[] 25)) := fun k hk => Below.heap_alloc w7.drew _ k hk.1
            have hbelA : Below w.heap.size w (w7.drew.alloc (.cells #[] 25)) := hbel7.drew.alloc (show w.heap.size ≤ w7.heap.size by omega) _
            have hzA : (w7.drew.alloc (.cells #[] 25)).heap.size = w7.heap.size + 1 := by simp
            refine wpAnyH_cl (i := 2) rfl (by kernel_rfl) (fun K hK => ?_)
            (refine step_apSs rfl _ _ rfl w.heap.size (fun k => k < w.heap.size) (.slice (some ⟨w7.heap.size, 0, none⟩) 0 0) [] rfl (OwnS.made (w := w7.drew) (show w.heap.size ≤ w7.heap.size by omega)) _ A7 q c7 (allSecs rs) rfl (hrd7.out.keep hkA) (fun k hk => ⟨by have := hk.1; show k < (w7.alloc (.cells #[] 25)).heap.size; simp; omega, .inr (by rcases hk.2 with h | h; exact h.elim; omega), fun e => by have := hk.1; simp [Value.ownBlock] at e; omega⟩) (by rw [← hq'.out]; simp; omega) (by show w.heap.size ≤ (w7.alloc (.cells #[] 25)).heap.size; simp; omega) ?_; intro v8 w8 hown8 hg8 hat8; have hbel8 := hbelA.grown hg8 (by show w.heap.size ≤ (w7.alloc (.cells #[] 25)).heap.size; simp; omega) (fun k hk => by simp [Value.ownBlock] at hk; omega); have hs8 := hbel8.size; rw [List.nil_append] at hown8)
            refine hK.out _ _ (by exact hbel8) (fun hHeld => ?_)
            clear hK K
            (try simp only [Act.put, List.setIfInBounds_toArray, List.set_cons_zero, List.set_cons_succ])
            refine wpAnyH_cl (i := 4) rfl (by kernel_rfl) (fun K hK => ?_)
            (refine step_apSs rfl _ _ rfl w.heap.size (fun k => k < w.heap.size) v8 (allSecs rs) rfl hown8 (fun k => k < w.heap.size) B m d tail rfl (ht.keep (Kp.of_below hbel8 (fun k hk => hk))) (fun k hk => ⟨by omega, .inl hk, fun e => by have := (hown8.lt k e).1; omega⟩) (by rw [← hq'.out]; omega) (by omega) ?_; intro v9 w9 hown9 hg9 hat9; have hbel9 := hbel8.grown hg9 hs8 (fun k hk => (hown8.lt k hk).1); have hs9 := hbel9.size; obtain ⟨A9, c9, rfl, hc9, hm9⟩ := hown9.form; obtain ⟨qt, hqt⟩ : ∃ qt, qt = (allSecs rs ++ tail).length := ⟨_, rfl⟩; rw [← hqt] at hown9 hc9 ⊢; clear hqt)
            refine hK.out _ _ (by exact hbel9) (fun hHeld => ?_)
            clear hK K
            (try simp only [Act.put, List.setIfInBounds_toArray, List.set_cons_zero, List.set_cons_succ])
            have hz8 : w7.heap.size + 1 ≤ w8.heap.size := by have := hg8.size; have h2 : (w7.alloc (.cells #[] 25)).heap.size ≤ w8.heap.size := this; simp at h2; omega
            have hk79 : Kp (fun k => k < w7.heap.size ∧ (False ∨ w6.heap.size ≤ k)) w7 w9 := fun k hk => (hg9.block k (by have := hk.1; omega) (fun e => by rcases hat8 with h | h <;> rw [h] at e <;> simp [Value.ownBlock] at e <;> (have := hk.1; omega))).trans ((hg8.block k (by have := hk.1; show k < (w7.alloc (.cells #[] 25)).heap.size; simp; omega) (fun e => by simp [Value.ownBlock] at e; have := hk.1; omega)).trans (hkA k hk))
            refine wpAnyH_cl (i := 9) rfl (by kernel_rfl) (fun K hK => ?_)
            go_simp
            (refine (scan_any _ A9 _ c9 (allSecs rs ++ tail) y.gen _ hown9.rd hc9 hm9 (fun s hs => by rcases List.mem_append.1 hs with hs | hs; (have := hsh.out s hs; omega); (have := hl1'.out s hs; omega)) (by rw [List.length_append, ← hq'.out]; omega) (fun k hk => hk.1)).mono ?_; rintro e w10 ⟨v10, rfl, hown10, hb10⟩; rw [scan_back hlog.out hst.out] at hown10 ⊢; obtain ⟨A10, c10, rfl, hc10, hm10⟩ := hown10.form; rw [← hn.out] at hown10 hc10 ⊢; rw [← hq'.out]; have hbel10 := hbel9.trans (hb10.mono hs9))
            (try (go_wp2_with fail))
            refine hK.out _ _ (by exact hbel10) (fun hHeld => ?_)
            clear hK K
            (try simp only [Act.put, List.setIfInBounds_toArray, List.set_cons_zero, List.set_cons_succ])
            refine wpAnyH_tk (i := 10) (v := ?_) rfl (by kernel_rfl) (fun _ _ _ h => h) (by rfl) ?_ (by assumption) ?_
            rotate_left
            · (intro w hSw; (try dsimp only at hSw); go_simp; (try with_reducible rfl))
            (try simp only [Act.put, List.setIfInBounds_toArray, List.set_cons_zero, List.set_cons_succ])
            refine wpAnyH_tk (i := 11) (v := ?_) rfl (by kernel_rfl) (fun _ _ _ h => h) (by rfl) ?_ (by assumption) ?_
            rotate_left
            · (intro w hSw; (try dsimp only at hSw); go_simp; (try with_reducible rfl))
            (try simp only [Act.put, List.setIfInBounds_toArray, List.set_cons_zero, List.set_cons_succ])
            refine wpAnyH_tk (i := 12) (v := ?_) rfl (by kernel_rfl) (fun _ _ _ h => h) (by rfl) ?_ (by assumption) ?_
            rotate_left
            · (intro w hSw; (try dsimp only at hSw); go_simp; (try with_reducible rfl))
            (try simp only [Act.put, List.setIfInBounds_toArray, List.set_cons_zero, List.set_cons_succ])
            refine wpAnyH_tk (i := 13) (v := ?_) rfl (by kernel_rfl) (fun _ _ _ h => h) (by rfl) ?_ (by assumption) ?_
            rotate_left
            · (intro w hSw; (try dsimp only at hSw); go_simp; (try with_reducible rfl))
            (try simp only [Act.put, List.setIfInBounds_toArray, List.set_cons_zero, List.set_cons_succ])
            refine wpAnyH_tk (i := 14) (v := ?_) rfl (by kernel_rfl) (fun _ _ _ h => h) (by rfl) ?_ (by assumption) ?_
            rotate_left
            · (intro w hSw; (try dsimp only at hSw); go_simp; (try with_reducible rfl))
            (try simp only [Act.put, List.setIfInBounds_toArray, List.set_cons_zero, List.set_cons_succ])
            refine wpAnyH_done (by kernel_rfl) ?_ _
            have hs10 := hb10.size
            have y0 := (World.cell?_of_block (hbel10.block b hbF)).trans hg0
            have hrd7' := hid ((hrd7.out.keep hk79).keep (w' := w10) (fun k hk => hb10.block k (by have := hg9.size; have := hk.1; omega)))
            have hrd10 := hid hown10.rd
            have hs79 : w7.heap.size ≤ w10.heap.size := by have := hg9.size; omega
            clear hown10 hkA hown8 hown9 hg8 hg9 hat8 hat9 hk79
            go_wp2_with fail
            refine (scan_any _ A7 q c7 (allSecs rs) g2 _ hrd7'.out hc7 hm7 (fun s hs => by have := hsh.out s hs; omega) (by rw [← hq'.out]; omega) (fun k hk => by have := hk.1; omega)).mono ?_
            rintro e w11 ⟨v11, rfl, hown11, hb11⟩
            rw [scan_other_ hlog.out hy'.out hg2.out] at hown11 ⊢
            obtain ⟨A11, c11, rfl, hc11, hm11⟩ := hown11.form
            have hs11 := hb11.size
            have hbel11 := hbel10.trans (hb11.mono (by omega))
            have hrd10' := hid (hrd10.out.keep (Kp.of_below hb11 (fun k hk => hk.1)))
            clear hown11
            go_wp2_with fail
            refine (sameAll_any _ _ A10 (some ⟨b, o, none⟩) _ c10 _ c rs rs _ hrd10'.out (h.keep (Kp.of_below hbel11 (fun k hk => hk))) (by omega) (fun k hk => by have := hk.1; omega) (fun k hk => by omega)).mono ?_
            rintro e w12 ⟨rfl, hb12⟩
            rw [decide_eq_true (rfl : rs = rs)]
            have hbel12 := hbel11.trans (hb12.mono (by omega))
            go_wp2_with fail
            go_ret
            exact ⟨by simp, hbel12⟩

end Go.Proofs.Ytbcmpfdhpefdbaa
