/- The contracts of both Joins. -/
import Derived.Test.YtbcmpfdhpefdbaaKX
import Derived.Test.YtbcmpfdhpefdbaaLogV
import Derived.Test.YtbcmpfdhpefdbaaLogV28
set_option linter.unusedVariables false
set_option linter.unusedSimpArgs false
namespace Go.Proofs.Ytbcmpfdhpefdbaa
open Go.RowKit
attribute [local irreducible] Go.Calls

def JoinPost (F : Nat → Prop) (w : World) (ls : List (List Rec)) (e : Ending) (w' : World) : Prop :=
  ∃ v, e = .returned v ∧ OwnR w.heap.size F w' v (joinP ls) ∧ Below w.heap.size w w'
def Join28Post (F : Nat → Prop) (w : World) (ls : List (List Rec)) (e : Ending) (w' : World) : Prop :=
  ∃ (A : Option Addr) (n c : Nat), e = .returned (.slice A n c) ∧ n ≤ c ∧ c ≤ maxLen ∧ RdR w' F A n (joinP ls) ∧ Below w.heap.size w w'
theorem joinP_len {ls : List (List Rec)} (h : ∀ l ∈ ls, l.length ≤ 1000000) : (joinP ls).length ≤ 1000000 := by
  rcases joinP_mem ls with e | e
  · rw [e]; simp
  · exact h _ e

set_option maxRecDepth 100000 in
set_option maxHeartbeats 1000000 in
theorem join_any (F : Nat → Prop) (A : Option Addr) (n c : Nat) (ls : List (List Rec)) (w : World) (h : RdL w F A n ls) (hl : n ≤ 1000000) (hls : ∀ l ∈ ls, l.length ≤ 1000000) (hF : ∀ k, F k → k < w.heap.size) :
    Calls Try.prog 42 #[.slice A n c] w (JoinPost F w ls) := by
  have hn := hid h.1
  go_enter Try.func42, Try.ntmps42
  go_wp2_with fail
  go_loopw [3, 8] (fun v i wr => ∃ (j : Nat) (Ab : Option Addr) (nb cb : Nat), i = .int .i64 (j : Int) ∧ j ≤ n ∧ v = .slice Ab nb cb ∧ nb ≤ cb ∧ cb ≤ maxLen ∧ RdR w F Ab nb (joinP (ls.take j)) ∧ Below w.heap.size w wr) (fun _ i _ => n - (intOf i).toNat)
  case atStart => exact ⟨0, none, 0, 0, rfl, by omega, rfl, by omega, by simp, RdR.nil_, Below.refl _ _⟩
  case round =>
    obtain ⟨j, Ab, nb, cb, rfl, hj, rfl, hnb, hcb, hbest, hbel⟩ := hrel
    have hzr := hbel.size
    by_cases hjn : j < n
    · obtain ⟨l, hx⟩ : ∃ l, ls[j]? = some l := ⟨ls[j]'(by rw [← hn.out]; exact hjn), List.getElem?_eq_getElem _⟩
      obtain ⟨b, o, A', c', rfl, hFb, hcell, hlc, hlm, hr⟩ := h.at_ hx
      have hcellr := (World.cell?_of_block (hbel.block b (hF _ hFb))).trans hcell
      have hx' := hid hx
      have hmem := hls l (List.mem_of_getElem? hx)
      clear hx hcell
      have hbl := hid hbest.1
      obtain ⟨m, hm⟩ : ∃ m, m = l.length := ⟨_, rfl⟩
      rw [← hm] at hcellr hlc hr hmem
      have hm' := hid hm
      clear hm
      go_wp2_with fail
      refine (logValid_any F A' m c' l _ (hr.keep (Kp.of_below hbel hF)) (by omega) (fun k hk => by have := hF k hk; omega)).mono ?_
      rintro e w2 ⟨rfl, hb2⟩
      have hbel2 := hbel.trans (hb2.mono (by omega))
      cases hlg : logB l with
      | true =>
        have hlg' := hid hlg
        clear hlg
        by_cases hmn : nb < m
        · have hres := hid (show joinP (ls.take (j + 1)) = l by rw [joinP_take hx'.out, joinF, if_pos ⟨hlg'.out, by rw [← hbl.out, ← hm'.out]; exact hmn⟩])
          go_wp2_with fail
          go_roundw
          case rel => exact ⟨j + 1, A', m, c', by go_num, by omega, rfl, hlc, hlm, by rw [hres.out]; exact hr, hbel2⟩
          case measure => simp [intOf]; omega
        · have hres := hid (show joinP (ls.take (j + 1)) = joinP (ls.take j) by rw [joinP_take hx'.out, joinF, if_neg (fun e => hmn (by have := e.2; rw [← hbl.out, ← hm'.out] at this; exact this))])
          go_wp2_with fail
          go_roundw
          case rel => exact ⟨j + 1, Ab, nb, cb, by go_num, by omega, rfl, hnb, hcb, by rw [hres.out]; exact hbest, hbel2⟩
          case measure => simp [intOf]; omega
      | false =>
        have hres := hid (show joinP (ls.take (j + 1)) = joinP (ls.take j) by rw [joinP_take hx'.out, joinF, if_neg (fun e => by rw [hlg] at e; exact absurd e.1 (by decide))])
        clear hlg
        go_wp2_with fail
        go_roundw
        case rel => exact ⟨j + 1, Ab, nb, cb, by go_num, by omega, rfl, hnb, hcb, by rw [hres.out]; exact hbest, hbel2⟩
        case measure => simp [intOf]; omega
    · have hjn' : j = n := by omega
      subst hjn'
      rw [List.take_of_length_le (by rw [← hn.out]; omega)] at hbest
      have hlen := hid (show nb ≤ 1000000 by rw [hbest.1]; exact joinP_len hls)
      have hbest' := hid (hbest.keep (Kp.of_below hbel hF))
      clear hbest
      go_wp2_with (at_builtin; refine mk_stop ?_)
      refine wpList_apRs rfl _ _ rfl w.heap.size F (.slice none 0 0) [] rfl OwnR.nil_ F Ab nb cb (joinP ls) rfl hbest'.out (fun k hk => ⟨by have := hF k hk; omega, .inl hk, by simp [Value.ownBlock]⟩) (by have := hlen.out; have := hbest'.out.1; simp; omega) (by omega) ?_
      intro v5 w5 hown5 hg5 hat5
      rw [List.nil_append] at hown5
      have hbel5 := hbel.grown hg5 hbel.size (fun k hk => by simp [Value.ownBlock] at hk)
      go_wp2
      go_ret
      exact ⟨_, rfl, hown5, hbel5⟩

set_option maxRecDepth 100000 in
set_option maxHeartbeats 1000000 in
theorem join28_any (F : Nat → Prop) (A : Option Addr) (n c : Nat) (ls : List (List Rec)) (w : World) (h : RdL w F A n ls) (hl : n ≤ 1000000) (hls : ∀ l ∈ ls, l.length ≤ 1000000) (hF : ∀ k, F k → k < w.heap.size) :
    Calls Try.prog 43 #[.slice A n c] w (Join28Post F w ls) := by
  have hn := hid h.1
  go_enter Try.func43, Try.ntmps43
  go_wp2_with fail
  go_loopw [3, 4] (fun v i wr => ∃ (j : Nat) (Ab : Option Addr) (nb cb : Nat), i = .int .i64 (j : Int) ∧ j ≤ n ∧ v = .slice Ab nb cb ∧ nb ≤ cb ∧ cb ≤ maxLen ∧ RdR w F Ab nb (joinP (ls.take j)) ∧ Below w.heap.size w wr) (fun _ i _ => n - (intOf i).toNat)
  case atStart => exact ⟨0, none, 0, 0, rfl, by omega, rfl, by omega, by simp, RdR.nil_, Below.refl _ _⟩
  case round =>
    obtain ⟨j, Ab, nb, cb, rfl, hj, rfl, hnb, hcb, hbest, hbel⟩ := hrel
    have hzr := hbel.size
    by_cases hjn : j < n
    · obtain ⟨l, hx⟩ : ∃ l, ls[j]? = some l := ⟨ls[j]'(by rw [← hn.out]; exact hjn), List.getElem?_eq_getElem _⟩
      obtain ⟨b, o, A', c', rfl, hFb, hcell, hlc, hlm, hr⟩ := h.at_ hx
      have hbF := hF _ hFb
      have hcellr := (World.cell?_of_block (hbel.block b hbF)).trans hcell
      have hx' := hid hx
      have hmem := hls l (List.mem_of_getElem? hx)
      clear hx hcell
      have hbl := hid hbest.1
      obtain ⟨m, hm⟩ : ∃ m, m = l.length := ⟨_, rfl⟩
      rw [← hm] at hcellr hlc hr hmem
      have hm' := hid hm
      clear hm
      go_wp2_with fail
      refine (logValid28_any F A' m c' l _ (hr.keep (Kp.of_below hbel hF)) (by omega) (fun k hk => by have := hF k hk; omega)).mono ?_
      rintro e w2 ⟨rfl, hb2⟩
      have hbel2 := hbel.trans (hb2.mono (by omega))
      have hcell2 := (World.cell?_of_block (hb2.block b (by omega))).trans hcellr
      cases hlg : logB l with
      | true =>
        have hlg' := hid hlg
        clear hlg
        by_cases hmn : nb < m
        · have hres := hid (show joinP (ls.take (j + 1)) = l by rw [joinP_take hx'.out, joinF, if_pos ⟨hlg'.out, by rw [← hbl.out, ← hm'.out]; exact hmn⟩])
          go_wp2_with fail
          go_roundw
          case rel => exact ⟨j + 1, A', m, c', by go_num, by omega, rfl, hlc, hlm, by rw [hres.out]; exact hr, hbel2⟩
          case measure => simp [intOf]; omega
        · have hres := hid (show joinP (ls.take (j + 1)) = joinP (ls.take j) by rw [joinP_take hx'.out, joinF, if_neg (fun e => hmn (by have := e.2; rw [← hbl.out, ← hm'.out] at this; exact this))])
          go_wp2_with fail
          go_roundw
          case rel => exact ⟨j + 1, Ab, nb, cb, by go_num, by omega, rfl, hnb, hcb, by rw [hres.out]; exact hbest, hbel2⟩
          case measure => simp [intOf]; omega
      | false =>
        have hres := hid (show joinP (ls.take (j + 1)) = joinP (ls.take j) by rw [joinP_take hx'.out, joinF, if_neg (fun e => by rw [hlg] at e; exact absurd e.1 (by decide))])
        clear hlg
        go_wp2_with fail
        go_roundw
        case rel => exact ⟨j + 1, Ab, nb, cb, by go_num, by omega, rfl, hnb, hcb, by rw [hres.out]; exact hbest, hbel2⟩
        case measure => simp [intOf]; omega
    · have hjn' : j = n := by omega
      subst hjn'
      rw [List.take_of_length_le (by rw [← hn.out]; omega)] at hbest
      have hbest' := hid (hbest.keep (Kp.of_below hbel hF))
      clear hbest
      go_wp2_with fail
      go_ret
      exact ⟨Ab, nb, cb, rfl, hnb, hcb, hbest'.out, hbel⟩

end Go.Proofs.Ytbcmpfdhpefdbaa
