/- slices.Equal at bytes. -/
import Derived.Test.YtbcmpfdhpefdbaaSS
set_option linter.unusedVariables false
set_option linter.unusedSimpArgs false
namespace Go.Proofs.Ytbcmpfdhpefdbaa
open Go.RowKit
attribute [local irreducible] Go.Calls

theorem RdB.at_ {w : World} {F : Nat → Prop} {A : Option Addr} {n : Nat} {bs : List UInt8} (h : RdB w F A n bs) {j : Nat} {x : UInt8} (hx : bs[j]? = some x) :
    ∃ b o, A = some ⟨b, o, none⟩ ∧ F b ∧ w.cell? ⟨b, o + j, none⟩ = some (.int .u8 (x.toNat : Int)) := by
  have hj : j < bs.length := (List.getElem?_eq_some_iff.1 hx).1
  obtain ⟨b, o, rfl, hF, hc⟩ := h.2.2 (by rw [h.1]; omega)
  exact ⟨b, o, rfl, hF, hc j _ (by rw [List.getElem?_map, hx]; rfl)⟩

/-- answers whether the two are alike -/
def EqPost {α : Type} [DecidableEq α] (w : World) (x y : α) (e : Ending) (w' : World) : Prop := e = .returned (.bool (decide (x = y))) ∧ Below w.heap.size w w'

set_option maxRecDepth 100000 in
set_option maxHeartbeats 400000 in
theorem equal_any (F G : Nat → Prop) (A C : Option Addr) (n c m d : Nat) (bs cs : List UInt8) (w : World) (h1 : RdB w F A n bs) (h2 : RdB w G C m cs) (hnc : n ≤ c) (hmd : m ≤ d) (hl : bs.length ≤ 1000000000) (hl2 : cs.length ≤ 1000000000)
    (hF : ∀ k, F k → k < w.heap.size) (hG : ∀ k, G k → k < w.heap.size) :
    Calls Try.prog 57 #[.slice A n c, .slice C m d] w (EqPost w bs cs) := by
  have hn := h1.1
  have hm := h2.1
  have hyes := hid (show ∀ w', bs = cs → Below w.heap.size w w' → EqPost w bs cs (.returned (.bool true)) w' from fun w' e hb => ⟨by rw [decide_eq_true e], hb⟩)
  have hno := hid (show ∀ w', bs ≠ cs → Below w.heap.size w w' → EqPost w bs cs (.returned (.bool false)) w' from fun w' e hb => ⟨by rw [decide_eq_false e], hb⟩)
  have hnl : n ≤ 1000000000 := by omega
  have hml : m ≤ 1000000000 := by omega
  have hn' := hid hn
  have hm' := hid hm
  clear hn hm
  by_cases hnm : n = m
  · subst hnm
    go_enter Try.func57, Try.ntmps57
    go_wp2_with fail
    go_loopw [13] (fun i wr => ∃ j : Nat, i = .int .i64 (j : Int) ∧ j ≤ n ∧ Hid (bs.take j = cs.take j) ∧ Below w.heap.size w wr) (fun i _ => n - (intOf i).toNat)
    case atStart => exact ⟨0, rfl, by omega, rfl, Below.refl _ _⟩
    case round =>
      obtain ⟨j, rfl, hj, ht, hbel⟩ := hrel
      by_cases hjn : j < n
      · obtain ⟨x, hx⟩ : ∃ x, bs[j]? = some x := ⟨bs[j]'(by rw [← hn'.out]; exact hjn), List.getElem?_eq_getElem _⟩
        obtain ⟨y, hy⟩ : ∃ y, cs[j]? = some y := ⟨cs[j]'(by rw [← hm'.out]; exact hjn), List.getElem?_eq_getElem _⟩
        obtain ⟨b, o, rfl, hFb, hc1⟩ := (h1.keep (Kp.of_below hbel hF)).at_ hx
        obtain ⟨b2, o2, rfl, hGb, hc2⟩ := (h2.keep (Kp.of_below hbel hG)).at_ hy
        have hx' := hid hx
        have hy' := hid hy
        clear hx hy
        by_cases hxy : x = y
        · subst hxy
          go_wp2_with fail
          go_region_held3 (fun w' => w'.cell? ⟨b, o + j, none⟩ = some (.int .u8 (x.toNat : Int)) ∧ w'.cell? ⟨b2, o2 + j, none⟩ = some (.int .u8 (x.toNat : Int))) (exact ⟨hc1, hc2⟩) (fail)
          go_wp2
          go_roundw
          case rel =>
            refine ⟨j + 1, by go_num, by omega, ?_, hbel.drew⟩
            show bs.take (j + 1) = cs.take (j + 1)
            rw [List.take_add_one, List.take_add_one, ht.out, hx'.out, hy'.out]
          case measure => simp [intOf]; omega
        · have hne : ¬ (x.toNat : Int) = (y.toNat : Int) := fun e => hxy (UInt8.toNat_inj.1 (by omega))
          have hne2 : ¬ x.toNat = y.toNat := by omega
          clear hxy
          go_wp2_with fail
          go_region_held3 (fun w' => w'.cell? ⟨b, o + j, none⟩ = some (.int .u8 (x.toNat : Int)) ∧ w'.cell? ⟨b2, o2 + j, none⟩ = some (.int .u8 (y.toNat : Int))) (exact ⟨hc1, hc2⟩) (fail)
          go_wp2
          go_ret
          refine hno.out _ (fun e => ?_) hbel.drew
          have := hx'.out
          rw [e, hy'.out] at this
          injection this with this
          exact hne2 (by rw [this])
      · have hjn : j = n := by omega
        subst hjn
        go_wp2
        go_ret
        refine hyes.out _ ?_ hbel
        have := ht.out
        rwa [List.take_of_length_le (by rw [← hn'.out]; omega), List.take_of_length_le (by rw [← hm'.out]; omega)] at this
  · have hnm2 : ¬ (n : Int) = (m : Int) := by omega
    go_enter Try.func57, Try.ntmps57
    go_wp2
    go_ret
    exact hno.out _ (fun e => hnm (by rw [hn'.out, hm'.out, e])) (Below.refl _ _)

end Go.Proofs.Ytbcmpfdhpefdbaa
