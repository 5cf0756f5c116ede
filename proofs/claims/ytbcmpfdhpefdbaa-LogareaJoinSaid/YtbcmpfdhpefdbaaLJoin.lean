/- The walk of the law LogareaJoin: it returns true. -/
import Derived.Test.YtbcmpfdhpefdbaaLLog
set_option linter.unusedVariables false
set_option linter.unusedSimpArgs false
namespace Go.Proofs.Ytbcmpfdhpefdbaa
open Go.RowKit
attribute [local irreducible] Go.Calls

set_option maxRecDepth 100000 in
set_option maxHeartbeats 1000000 in
theorem lawJoin_any (A : Option Addr) (n c : Nat) (ls : List (List Rec)) (gen : Nat) (w : World) (h : RdL w (fun k => k < w.heap.size) A n ls) (hnc : n ≤ c) (hcm : c ≤ maxLen) (hg : gen < 18446744073709551616) :
    Calls Try.prog 13 #[.slice A n c, .int .u64 (gen : Int)] w (LawPost w) := by
  have hnm : n ≤ maxLen := Nat.le_trans hnc hcm
  have hnb : n ≤ 9223372036854775807 := by simp only [maxLen] at hnm; omega
  have hn := hid h.1
  go_enter Try.func13, Try.ntmps13
  go_wp2_with fail
  refine (awake28_any _).mono ?_
  rintro e w1 ⟨rfl, hb1⟩
  have h1 := h.keep (Kp.of_below hb1 (fun k hk => hk))
  have hs1 := hb1.size
  by_cases h10 : 10 < n
  · have h10i : (10 : Int) < (n : Int) := by omega
    go_wp2_with fail
    go_ret
    exact ⟨rfl, hb1⟩
  · have h10i : ¬ (10 : Int) < (n : Int) := by omega
    have h10j : (n : Int) ≤ 10 := by omega
    go_wp2_with fail
    go_loopw [15] (fun i wr => ∃ j : Nat, i = .int .i64 (j : Int) ∧ j ≤ n ∧ Hid (∀ l ∈ ls.take j, l.length ≤ 20) ∧ Below w.heap.size w wr) (fun i _ => n - (intOf i).toNat)
    case atStart => exact ⟨0, rfl, by omega, (fun l hl => by simp at hl : ∀ l ∈ ls.take 0, l.length ≤ 20), hb1⟩
    case round =>
      obtain ⟨j, rfl, hj, hok, hbel⟩ := hrel
      have hzr := hbel.size
      by_cases hjn : j < n
      · obtain ⟨l, hx⟩ : ∃ l, ls[j]? = some l := ⟨ls[j]'(by rw [← hn.out]; exact hjn), List.getElem?_eq_getElem _⟩
        obtain ⟨b, o, A', c', rfl, hFb, hcell, hlc, hlm, hr⟩ := h.at_ hx
        have hcellr := (World.cell?_of_block (hbel.block b hFb)).trans hcell
        have hx' := hid hx
        clear hx hcell
        obtain ⟨m, hm⟩ : ∃ m, m = l.length := ⟨_, rfl⟩
        rw [← hm] at hcellr hlc hr
        have hm' := hid hm
        clear hm
        go_wp2_with fail
        refine (few_any (fun k => k < w.heap.size) A' m c' l _ (hr.keep (Kp.of_below hbel (fun k hk => hk))) (Nat.le_trans hlc hlm) (fun k hk => by omega)).mono ?_
        rintro e w2 ⟨rfl, hb2⟩
        have hbel2 := hbel.trans (hb2.mono (by omega))
        cases hlg : fewB l with
        | false =>
          clear hlg
          go_wp2_with fail
          go_ret
          exact ⟨rfl, hbel2⟩
        | true =>
          have hl20 := hid (fewB_true hlg)
          clear hlg
          go_wp2_with fail
          go_roundw
          case rel =>
            refine ⟨j + 1, by go_num, by omega, ?_, hbel2⟩
            show ∀ y ∈ ls.take (j + 1), y.length ≤ 20
            intro y hy
            rw [List.take_add_one, hx'.out, List.mem_append] at hy
            rcases hy with hy | hy
            · exact hok.out y hy
            · simp at hy; subst hy; exact hl20.out
          case measure => simp [intOf]; omega
      · have hjn' : j = n := by omega
        subst hjn'
        have hall := hid (show ∀ l ∈ ls, l.length ≤ 1000000 by
          have := hok.out
          rw [List.take_of_length_le (by rw [← hn.out]; omega)] at this
          exact fun l hl => by have := this l hl; omega)
        clear hok
        have hr := h.keep (Kp.of_below hbel (fun k hk => hk))
        go_wp2_with fail
        refine (join_any (fun k => k < w.heap.size) A j c ls _ hr (by omega) hall.out (fun k hk => by omega)).mono ?_
        rintro e w3 ⟨v3, rfl, hown3, hb3⟩
        obtain ⟨A3, c3, rfl, hc3, hm3⟩ := hown3.form
        have hs3 := hb3.size
        have hbel3 := hbel.trans (hb3.mono (by omega))
        have hr3 := h.keep (Kp.of_below hbel3 (fun k hk => hk))
        have hrd3 := hid hown3.rd
        obtain ⟨q, hq⟩ : ∃ q, q = (joinP ls).length := ⟨_, rfl⟩
        rw [← hq] at hrd3 hc3 ⊢
        have hql : q ≤ 1000000 := by rw [hq]; exact joinP_len hall.out
        have hq' := hid hq
        clear hown3 hq
        go_wp2_with fail
        refine (join28_any (fun k => k < w.heap.size) A j c ls _ hr3 (by omega) hall.out (fun k hk => by omega)).mono ?_
        rintro e w4 ⟨A4, n4, c4, rfl, hc4, hm4, hrd4, hb4⟩
        have hs4 := hb4.size
        obtain rfl : n4 = q := by rw [hrd4.1, hq'.out]
        have hbel4 := hbel3.trans (hb4.mono (by omega))
        have hrd3' := hid (hrd3.out.keep (Kp.of_below hb4 (fun k hk => hk.1)))
        have hrd4' := hid hrd4
        clear hrd4
        go_wp2_with fail
        refine (sameAll_any _ _ A3 A4 _ c3 _ c4 (joinP ls) (joinP ls) _ hrd3'.out hrd4'.out (by omega) (fun k hk => by have := hk.1; omega) (fun k hk => by omega)).mono ?_
        rintro e w5 ⟨rfl, hb5⟩
        rw [decide_eq_true (rfl : joinP ls = joinP ls)]
        have hbel5 := hbel4.trans (hb5.mono (by omega))
        go_wp2_with fail
        refine (next_any A3 n4 c3 gen _ (by omega)).mono ?_
        rintro e _ ⟨rfl, rfl⟩
        go_wp2_with fail
        refine (next28_any A4 n4 c4 gen _ (by omega)).mono ?_
        rintro e _ ⟨rfl, rfl⟩
        go_wp2_with fail
        go_ret
        exact ⟨by simp, hbel5⟩

end Go.Proofs.Ytbcmpfdhpefdbaa
