/- The contract of 'numbers'. -/
import Derived.Test.YtbcmpfdhpefdbaaRecV27
set_option linter.unusedVariables false
set_option linter.unusedSimpArgs false
namespace Go.Proofs.Ytbcmpfdhpefdbaa
open Go.RowKit

abbrev N (n : Nat) : Value := .int .u64 (n : Int)
def RdN (w : World) (F : Nat → Prop) (A : Option Addr) (n : Nat) (ns : List Nat) : Prop := n = ns.length ∧ Rd w F 1 A n (ns.map N)

theorem encs_len (ns : List Nat) (h : ∀ n ∈ ns, n < 18446744073709551616) : (ns.flatMap enc).length ≤ 10 * ns.length := by
  induction ns with
  | nil => simp
  | cons a l ih =>
    have h1 := enc_len10 (h a (by simp))
    have h2 := ih (fun n hn => h n (by simp [hn]))
    rw [List.flatMap_cons, List.length_append, List.length_cons]
    omega

set_option maxRecDepth 100000 in
set_option maxHeartbeats 400000 in
theorem numbers_any (F : Nat → Prop) (A : Option Addr) (k c : Nat) (bs : List UInt8) (G : Nat → Prop) (A' : Option Addr) (m c' : Nat) (ns : List Nat) (w : World) (h : RdB w F A k bs) (h' : RdN w G A' m ns)
    (hl : bs.length ≤ 10000000) (hl' : m ≤ 1000) (hm0 : 0 < m) (hns : ∀ n ∈ ns, n < 18446744073709551616) (hF : ∀ k, F k → k < w.heap.size) (hG : ∀ k, G k → k < w.heap.size) :
    Calls Try.prog 51 #[.slice A k c, .slice A' m c'] w (RetB w.heap.size w (bs ++ ns.flatMap enc)) := by
  have hm := hid h'.1
  have hel := encs_len ns hns
  have hns := hid hns
  obtain ⟨b, o, rfl, hGb, hc⟩ := h'.2.2 hm0
  have hc' := hid hc
  clear hc
  go_enter Try.func51, Try.ntmps51
  go_wp2_with fail
  go_loopw [0, 9] (fun v i wr => ∃ (j : Nat) (A : Option Addr) (k c : Nat) (H : Nat → Prop), i = .int .i64 (j : Int) ∧ v = .slice A k c ∧ j ≤ m ∧ RdB wr H A k (bs ++ (ns.take j).flatMap enc) ∧ (∀ k, H k → k < wr.heap.size) ∧ Hid (0 < j → OwnB w.heap.size wr v (bs ++ (ns.take j).flatMap enc)) ∧ Below w.heap.size w wr) (fun _ i _ => m - (intOf i).toNat)
  case atStart => exact ⟨0, A, k, c, F, rfl, rfl, by omega, by simpa using h, hF, (fun h => absurd h (by omega)), Below.refl _ _⟩
  case round =>
    obtain ⟨j, A1, k1, c1, H, rfl, rfl, hj, hr, hH, hown, hbel⟩ := hrel
    by_cases hjm : j < m
    · have hx : ns[j]? = some (ns[j]'(by rw [← hm.out]; exact hjm)) := List.getElem?_eq_getElem _
      have hxl := hns.out _ (List.mem_of_getElem? hx)
      generalize ns[j]'(by rw [← hm.out]; exact hjm) = x at *
      have hcell : wr.cell? ⟨b, o + j, none⟩ = some (.int .u64 (x : Int)) := by
        rw [hbel.cell (hG b hGb)]
        exact hc'.out j _ (by rw [List.getElem?_map, hx]; rfl)
      have hnext := hid (show (ns.take (j + 1)).flatMap enc = (ns.take j).flatMap enc ++ enc x by rw [List.take_add_one, hx]; simp [List.flatMap_append])
      have hlen : (bs ++ (ns.take j).flatMap enc).length ≤ 1000000000 := by
        have := encs_len (ns.take j) (fun n hn => hns.out n (List.mem_of_mem_take hn))
        have h2 : (ns.take j).length ≤ j := List.length_take_le _ _
        rw [List.length_append]; omega
      clear hx
      have hlen := hid hlen
      go_wp2_with (go_at_call 80; refine (appendUint_any H _ _ _ _ x _ hr hlen.out hH hxl).mono ?_; rintro e w1 ⟨v1, rfl, hown1, hbel1⟩)
      go_roundw
      case rel =>
        rw [List.append_assoc, ← hnext.out] at hown1
        obtain ⟨A2, c2, rfl, _, _⟩ := hown1.form
        exact ⟨j + 1, A2, _, c2, fun k => k < w1.heap.size ∧ wr.heap.size ≤ k, by go_num, rfl, by omega, hown1.rd, (fun k hk => hk.1), hid (fun _ => hown1.lower hbel.size), hbel.trans (hbel1.mono hbel.size)⟩
      case measure => simp [intOf]; omega
    · have hjm : j = m := by omega
      subst hjm
      have hfin := hid (hown.out hm0)
      have ht := hid (show ns.take j = ns from List.take_of_length_le (by rw [← hm.out]; omega))
      go_wp2
      go_ret
      exact ⟨_, rfl, by have := hfin.out; rw [ht.out] at this; exact this, hbel⟩

theorem rdN_blk {w : World} {g : Nat} {ns : List Nat} (h : Blk w g 22 (ns.map N).toArray) : RdN w (fun k => k = g) (some ⟨g, 0, none⟩) ns.length ns :=
  ⟨rfl, by simp, fun _ => ⟨_, _, rfl, rfl, fun j u hu => by rw [Nat.zero_add, h.cell]; simpa using hu⟩⟩

theorem RetB.opened {base : Nat} {w : World} {bs : List UInt8} {e : Ending} {w' : World} (h : RetB base w bs e w') :
    ∃ A c d, e = .returned (.slice A (List.length d) c) ∧ OwnB base w' (.slice A d.length c) d ∧ Below base w w' ∧ d.length ≤ c ∧ c ≤ maxLen ∧ Hid (d = bs) := by
  obtain ⟨v, rfl, hown, hb⟩ := h
  obtain ⟨A, c, rfl, h1, h2⟩ := hown.form
  exact ⟨A, c, bs, rfl, hown, hb, h1, h2, rfl⟩

/-- the call with a fresh block of numbers -/
theorem numbers_blk (F : Nat → Prop) (A : Option Addr) (k c : Nat) (bs : List UInt8) (g m c' : Nat) (ns : List Nat) (base : Nat) (w w1 : World) (hB : Blk w1 g 22 (ns.map N).toArray) (hm : m = ns.length) (h : RdB w1 F A k bs)
    (hl : bs.length ≤ 10000000) (hl' : m ≤ 1000) (hm0 : 0 < m) (hns : ∀ n ∈ ns, n < 18446744073709551616) (hF : ∀ k, F k → k < w1.heap.size) (hbel : Below base w w1) (hbase : base ≤ w1.heap.size) :
    Calls Try.prog 51 #[.slice A k c, .slice (some ⟨g, 0, none⟩) m c'] w1 (RetB base w (bs ++ ns.flatMap enc)) := by
  subst hm
  refine (numbers_any F A k c bs (fun k => k = g) _ _ c' ns w1 h (rdN_blk hB) hl hl' hm0 hns hF (fun k hk => by rw [hk]; exact hB.lt)).mono ?_
  rintro e w2 ⟨v, rfl, hown, hb⟩
  exact ⟨v, rfl, hown.lower hbase, hbel.trans (hb.mono hbase)⟩

end Go.Proofs.Ytbcmpfdhpefdbaa
