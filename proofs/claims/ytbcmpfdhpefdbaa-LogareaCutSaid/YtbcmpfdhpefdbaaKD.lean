/- The contracts of the sum (crc64, tegularef08) and of 'sealed'. The contracts of 'sealed' and of the reference's sum. -/
import Derived.Test.YtbcmpfdhpefdbaaKC
set_option linter.unusedVariables false
set_option linter.unusedSimpArgs false
namespace Go.Proofs.Ytbcmpfdhpefdbaa
open Go.RowKit

theorem max_u64 : IntKind.u64.max = ((ones64 : Nat) : Int) := by decide
theorem not_u64 (x : Nat) (h : x < 18446744073709551616) : bits .xor .u64 IntKind.u64.max (x : Int) = ((ones64 - x : Nat) : Int) := by
  rw [max_u64, u64_xor_nat _ _ ones64_lt h]
  have key : (BitVec.ofNat 64 x ^^^ BitVec.allOnes 64).toNat = 18446744073709551615 - x := by
    rw [BitVec.xor_allOnes, BitVec.toNat_not, BitVec.toNat_ofNat, Nat.mod_eq_of_lt (by omega)]
  rw [BitVec.toNat_xor, BitVec.toNat_ofNat, Nat.mod_eq_of_lt (by omega)] at key
  have e : (BitVec.allOnes 64).toNat = ones64 := by decide
  rw [e] at key
  rw [Nat.xor_comm, key]; rfl
theorem not_u64_0 : bits .xor .u64 IntKind.u64.max 0 = ((ones64 : Nat) : Int) := not_u64 0 (by decide)

set_option maxRecDepth 100000 in
set_option maxHeartbeats 400000 in
theorem step_any (x : Nat) (w : World) (h : x < 18446744073709551616) :
    Calls Try.prog 94 #[.int .u64 (x : Int)] w fun e w' => e = .returned (.int .u64 (crcStep x : Nat)) ∧ w = w' := by
  by_cases h2 : x % 2 = 1
  · have ha : bits .and .u64 (x : Int) 1 = 1 := by
      rw [show (1 : Int) = ((1 : Nat) : Int) from rfl, u64_and_nat _ _ h (by decide), Nat.and_one_is_mod, h2]
    have hx : bits .xor .u64 ((x : Int) / 2) 14514072000185962306 = ((crcStep x : Nat) : Int) := by
      have := u64_xor_nat (x / 2) crcPoly (by omega) (by decide)
      unfold crcStep
      rw [if_pos h2, ← this]; rfl
    have hx := hid hx
    go_enter Try.func94, Try.ntmps94
    go_wp2
    go_ret
    exact ⟨by rw [← hx.out]; rfl, rfl⟩
  · have ha : bits .and .u64 (x : Int) 1 = 0 := by
      rw [show (1 : Int) = ((1 : Nat) : Int) from rfl, u64_and_nat _ _ h (by decide), Nat.and_one_is_mod, show x % 2 = 0 by omega]; rfl
    have hx : (x : Int) / 2 = ((crcStep x : Nat) : Int) := by
      unfold crcStep
      rw [if_neg h2]; omega
    have hx := hid hx
    go_enter Try.func94, Try.ntmps94
    go_wp2
    go_ret
    exact ⟨by rw [← hx.out]; rfl, rfl⟩

set_option maxRecDepth 100000 in
set_option maxHeartbeats 400000 in
theorem update_any (F : Nat → Prop) (A : Option Addr) (k c : Nat) (bs : List UInt8) (w : World) (h : RdB w F A k bs) (hkc : k ≤ c) (hl : bs.length ≤ 1099511627776) :
    Calls Try.prog 92 #[.int .u64 0, .slice A k c] w fun e w' => e = .returned (.int .u64 (crcSum bs : Nat)) ∧ w = w' := by
  have hs : IntKind.u64.signed = false := rfl
  have hn0 := not_u64_0
  have hk := hid h.1
  have hkl : k ≤ 1099511627776 := by rw [h.1]; exact hl
  go_enter Try.func92, Try.ntmps92
  go_wp2_with fail
  clear hn0
  go_loop [5, 12] (fun x i => ∃ (j y : Nat), i = .int .i64 (j : Int) ∧ x = .int .u64 (y : Int) ∧ j ≤ k ∧ Hid (y = crcUpd ones64 (bs.take j)) ∧ y < 18446744073709551616) (fun _ i => k - (intOf i).toNat)
  case atStart => exact ⟨0, ones64, rfl, rfl, by omega, rfl, ones64_lt⟩
  case round =>
    obtain ⟨j, y, rfl, rfl, hj, hy, hyl⟩ := hrel
    by_cases hjk : j < k
    · obtain ⟨b, o, rfl, hFb, hc⟩ := h.2.2 (by omega)
      have hjb : j < bs.length := by rw [← hk.out]; exact hjk
      have hx : bs[j]? = some bs[j] := List.getElem?_eq_getElem _
      have hsn := hid (crcUpd_snoc ones64 bs j bs[j] hx)
      generalize bs[j] = x at *
      have hcell : w.cell? ⟨b, o + j, none⟩ = some (.int .u8 (x.toNat : Int)) := hc j _ (by rw [List.getElem?_map, hx]; rfl)
      clear hc hx
      have hxl := x.toNat_lt
      have hxor : bits .xor .u64 (y : Int) (x.toNat : Int) = ((y ^^^ x.toNat : Nat) : Int) := u64_xor_nat _ _ hyl (by omega)
      have hxlt := xor_lt64 hyl (show x.toNat < 18446744073709551616 by omega)
      go_wp2_with fail
      go_loop [5, 20] (fun x' i => ∃ (q z : Nat), i = .int .i64 (q : Int) ∧ x' = .int .u64 (z : Int) ∧ q ≤ 8 ∧ Hid (z = crcN q (y ^^^ x.toNat)) ∧ z < 18446744073709551616) (fun _ i => 8 - (intOf i).toNat)
      case atStart => exact ⟨0, _, rfl, rfl, by omega, rfl, hxlt⟩
      case round =>
        obtain ⟨q, z, rfl, rfl, hq, hz, hzl⟩ := hrel
        have hzs := crcStep_lt hzl
        by_cases hq8 : q < 8
        · go_wp2_with (go_at_call 94; refine (step_any z _ hzl).mono ?_; rintro e w' ⟨rfl, rfl⟩)
          go_round
          case rel => exact ⟨q + 1, crcStep z, by go_num, rfl, by omega, hid (by rw [crcN_succ, ← hz.out]), hzs⟩
          case measure => simp [intOf]; omega
        · have hq9 : q = 8 := by omega
          subst hq9
          go_wp2
          go_round
          case rel => exact ⟨j + 1, z, by go_num, rfl, by omega, hid (by rw [hsn.out, ← hy.out, ← hz.out]), hzl⟩
          case measure => simp [intOf]; omega
    · have hn := not_u64 y hyl
      have hfin := hid (show ones64 - y = crcSum bs by
        unfold crcSum
        rw [hy.out, List.take_of_length_le (by have := hk.out; omega)])
      go_wp2
      go_ret
      exact ⟨by rw [← hfin.out]; rfl, rfl⟩

set_option maxRecDepth 100000 in
set_option maxHeartbeats 400000 in
theorem sum_any (F : Nat → Prop) (A : Option Addr) (k c : Nat) (bs : List UInt8) (w : World) (h : RdB w F A k bs) (hkc : k ≤ c) (hl : bs.length ≤ 1099511627776) :
    Calls Try.prog 81 #[.slice A k c] w fun e w' => e = .returned (.int .u64 (crcSum bs : Nat)) ∧ w = w' := by
  go_enter Try.func81, Try.ntmps81
  go_wp2_with (go_at_call 92; refine (update_any F A k c bs _ h hkc hl).mono ?_; rintro e w' ⟨rfl, rfl⟩)
  go_ret
  exact ⟨rfl, rfl⟩

end Go.Proofs.Ytbcmpfdhpefdbaa

namespace Go.Proofs.Ytbcmpfdhpefdbaa
open Go.RowKit

/-- returns a slice of its own (from block base on) that holds bs -/
theorem RetB_def {base : Nat} {w : World} {bs : List UInt8} {v : Value} {w' : World} (h1 : OwnB base w' v bs) (h2 : Below base w w') : RetB base w bs (.returned v) w' := ⟨v, rfl, h1, h2⟩

set_option maxRecDepth 100000 in
set_option maxHeartbeats 400000 in
theorem steps8_any (x : Nat) (w : World) (h : x < 18446744073709551616) :
    Calls Try.prog 93 #[.int .u64 (x : Int), .int .i64 8] w fun e w' => e = .returned (.int .u64 (crcN 8 x : Nat)) ∧ w = w' := by
  go_enter Try.func93, Try.ntmps93
  go_wp2_with fail
  go_loop [0, 5] (fun x' i => ∃ (q z : Nat), i = .int .i64 (q : Int) ∧ x' = .int .u64 (z : Int) ∧ q ≤ 8 ∧ Hid (z = crcN q x) ∧ z < 18446744073709551616) (fun _ i => 8 - (intOf i).toNat)
  case atStart => exact ⟨0, _, rfl, rfl, by omega, rfl, h⟩
  case round =>
    obtain ⟨q, z, rfl, rfl, hq, hz, hzl⟩ := hrel
    have hzs := crcStep_lt hzl
    have hnext := hid (show crcN (q + 1) x = crcStep z by rw [crcN_succ, ← hz.out])
    by_cases hq8 : q < 8
    · by_cases h2 : z % 2 = 1
      · have ha : bits .and .u64 (z : Int) 1 = 1 := by
          rw [show (1 : Int) = ((1 : Nat) : Int) from rfl, u64_and_nat _ _ hzl (by decide), Nat.and_one_is_mod, h2]
        have hx := hid (show bits .xor .u64 ((z : Int) / 2) 14514072000185962306 = ((crcStep z : Nat) : Int) by
          have := u64_xor_nat (z / 2) crcPoly (by omega) (by decide)
          unfold crcStep
          rw [if_pos h2, ← this]; rfl)
        go_wp2
        go_round
        case rel => exact ⟨q + 1, crcStep z, by go_num, by rw [hx.out], by omega, hid hnext.out.symm, hzs⟩
        case measure => simp [intOf]; omega
      · have ha : bits .and .u64 (z : Int) 1 = 0 := by
          rw [show (1 : Int) = ((1 : Nat) : Int) from rfl, u64_and_nat _ _ hzl (by decide), Nat.and_one_is_mod, show z % 2 = 0 by omega]; rfl
        have hx := hid (show (z : Int) / 2 = ((crcStep z : Nat) : Int) by
          unfold crcStep
          rw [if_neg h2]; omega)
        go_wp2
        go_round
        case rel => exact ⟨q + 1, crcStep z, by go_num, by rw [hx.out], by omega, hid hnext.out.symm, hzs⟩
        case measure => simp [intOf]; omega
    · have hq9 : q = 8 := by omega
      subst hq9
      have hz := hid hz.out
      go_wp2
      go_ret
      exact ⟨by rw [← hz.out]; rfl, rfl⟩

set_option maxRecDepth 100000 in
set_option maxHeartbeats 400000 in
theorem update8_any (F : Nat → Prop) (A : Option Addr) (k c : Nat) (bs : List UInt8) (w : World) (h : RdB w F A k bs) (hkc : k ≤ c) (hl : bs.length ≤ 1099511627776) :
    Calls Try.prog 85 #[.int .u64 0, .slice A k c] w fun e w' => e = .returned (.int .u64 (crcSum bs : Nat)) ∧ w = w' := by
  have hs : IntKind.u64.signed = false := rfl
  have hn0 := not_u64_0
  have hk := hid h.1
  have hkl : k ≤ 1099511627776 := by rw [h.1]; exact hl
  go_enter Try.func85, Try.ntmps85
  go_wp2_with fail
  clear hn0
  go_loop [5, 6] (fun x i => ∃ (j y : Nat), i = .int .i64 (j : Int) ∧ x = .int .u64 (y : Int) ∧ j ≤ k ∧ Hid (y = crcUpd ones64 (bs.take j)) ∧ y < 18446744073709551616) (fun _ i => k - (intOf i).toNat)
  case atStart => exact ⟨0, ones64, rfl, rfl, by omega, rfl, ones64_lt⟩
  case round =>
    obtain ⟨j, y, rfl, rfl, hj, hy, hyl⟩ := hrel
    by_cases hjk : j < k
    · obtain ⟨b, o, rfl, hFb, hc⟩ := h.2.2 (by omega)
      have hjb : j < bs.length := by rw [← hk.out]; exact hjk
      have hx : bs[j]? = some bs[j] := List.getElem?_eq_getElem _
      have hsn := hid (crcUpd_snoc ones64 bs j bs[j] hx)
      generalize bs[j] = x at *
      have hcell : w.cell? ⟨b, o + j, none⟩ = some (.int .u8 (x.toNat : Int)) := hc j _ (by rw [List.getElem?_map, hx]; rfl)
      clear hc hx
      have hxl := x.toNat_lt
      have hxor : bits .xor .u64 (y : Int) (x.toNat : Int) = ((y ^^^ x.toNat : Nat) : Int) := u64_xor_nat _ _ hyl (by omega)
      have hxlt := xor_lt64 hyl (show x.toNat < 18446744073709551616 by omega)
      have hnl := crcN_lt 8 hxlt
      go_wp2_with (go_at_call 93; refine (steps8_any _ _ hxlt).mono ?_; rintro e w' ⟨rfl, rfl⟩)
      go_round
      case rel => exact ⟨j + 1, _, by go_num, rfl, by omega, hid (by rw [hsn.out, ← hy.out]), hnl⟩
      case measure => simp [intOf]; omega
    · have hn := not_u64 y hyl
      have hfin := hid (show ones64 - y = crcSum bs by
        unfold crcSum
        rw [hy.out, List.take_of_length_le (by have := hk.out; omega)])
      go_wp2
      go_ret
      exact ⟨by rw [← hfin.out]; rfl, rfl⟩

set_option maxRecDepth 100000 in
set_option maxHeartbeats 400000 in
theorem sum8_any (F : Nat → Prop) (A : Option Addr) (k c : Nat) (bs : List UInt8) (w : World) (h : RdB w F A k bs) (hkc : k ≤ c) (hl : bs.length ≤ 1099511627776) :
    Calls Try.prog 67 #[.slice A k c] w fun e w' => e = .returned (.int .u64 (crcSum bs : Nat)) ∧ w = w' := by
  go_enter Try.func67, Try.ntmps67
  go_wp2_with (go_at_call 85; refine (update8_any F A k c bs _ h hkc hl).mono ?_; rintro e w' ⟨rfl, rfl⟩)
  go_ret
  exact ⟨rfl, rfl⟩

set_option maxRecDepth 100000 in
set_option maxHeartbeats 400000 in
theorem sealed_any (base : Nat) (A : Option Addr) (n c : Nat) (bs : List UInt8) (w : World) (h : OwnB base w (.slice A n c) bs) (hl : bs.length ≤ 1000000000) (hbase : base ≤ w.heap.size) :
    Calls Try.prog 52 #[.slice A n c] w (RetB base w (sealB bs)) := by
  have hr := h.rd
  have hnc : n ≤ c := by obtain ⟨_, _, e, h1, _⟩ := h.form; injection e with _ e1 e2; omega
  have hsl := crcSum_lt bs
  go_enter Try.func52, Try.ntmps52
  go_wp2_with (go_at_call 81; refine (sum_any _ A n c bs _ hr hnc (by omega)).mono ?_; rintro e w' ⟨rfl, rfl⟩)
  have hres := hid (show sealB bs = bs ++ be8To (crcSum bs) 8 from rfl)
  generalize crcSum bs = s at *
  go_loopw [0, 4] (fun v i wr => ∃ q : Nat, i = .int .i64 (56 - 8 * (q : Int)) ∧ q ≤ 8 ∧ OwnB base wr v (bs ++ be8To s q) ∧ Below base w wr) (fun _ i _ => (intOf i + 8).toNat)
  case atStart => exact ⟨0, rfl, by omega, by simpa [be8To] using h, Below.refl _ _⟩
  case round =>
    obtain ⟨q, rfl, hq, hown, hbel⟩ := hrel
    have hz : base ≤ wr.heap.size := Nat.le_trans hbase hbel.size
    by_cases hq8 : q < 8
    · go_wp2_with (at_builtin; refine mk_stop ?_)
      refine wpList_apB1 rfl _ _ rfl base _ _ (by rfl) hown _ (by rfl) (be8b s q) (be8b_lt s q) (by unfold be8b; push_cast; rfl) (by simp [be8To_len]; omega) hz ?_
      intro v2 w2 hown2 hg2 hat2
      go_wp2
      go_roundw
      case rel => exact ⟨q + 1, by go_num, by omega, by rw [be8To_succ, ← List.append_assoc]; exact hown2, hbel.grown hg2 hz (fun k hk => (hown.lt k hk).1)⟩
      case measure => simp [intOf]; omega
    · have hq9 : q = 8 := by omega
      subst hq9
      go_wp2
      go_ret
      exact ⟨_, rfl, by rw [hres.out]; exact hown, hbel⟩

set_option maxRecDepth 100000 in
set_option maxHeartbeats 400000 in
theorem sealed27_any (F : Nat → Prop) (A : Option Addr) (n c : Nat) (bs : List UInt8) (w : World) (h : RdB w F A n bs) (hnc : n ≤ c) (hl : bs.length ≤ 1000000000) (hF : ∀ k, F k → k < w.heap.size) :
    Calls Try.prog 25 #[.slice A n c] w (RetB w.heap.size w (sealB bs)) := by
  have h1 : RdB (w.alloc (.cells #[] 5)) F A n bs := h.keep fun k hk => Below.heap_alloc w _ _ (hF k hk)
  have hsl := crcSum_lt bs
  go_enter Try.func25, Try.ntmps25
  go_wp2_with (first | (go_at_call 67; refine (sum8_any _ A n c bs _ h hnc (by omega)).mono ?_; rintro e w' ⟨rfl, rfl⟩) | (at_builtin; refine mk_stop ?_))
  have hres := hid (show sealB bs = bs ++ be8To (crcSum bs) 8 from rfl)
  generalize crcSum bs = s at *
  refine wpList_apB rfl _ _ rfl w.heap.size (.slice (some ⟨w.heap.size, 0, none⟩) 0 0) [] (by rfl) (OwnB.made (Nat.le_refl _)) F A n c bs rfl h1 (by simp; omega) (by simp) ?_
  intro v1 w1 hown hg hat
  have hbel : Below w.heap.size w w1 := ((Below.refl _ _).alloc (Nat.le_refl _) _).grown hg (by simp) (by simp [Value.ownBlock])
  clear hg hat h1
  rw [List.nil_append] at hown
  go_wp2_with fail
  go_loopw [4, 5] (fun v i wr => ∃ q : Nat, i = .int .i64 (7 - (q : Int)) ∧ q ≤ 8 ∧ OwnB w.heap.size wr v (bs ++ be8To s q) ∧ Below w.heap.size w wr) (fun _ i _ => (intOf i + 1).toNat)
  case atStart => exact ⟨0, rfl, by omega, by simpa [be8To] using hown, hbel⟩
  case round =>
    clear hown hbel
    obtain ⟨q, rfl, hq, hown, hbel⟩ := hrel
    have hz : w.heap.size ≤ wr.heap.size := hbel.size
    by_cases hq8 : q < 8
    · go_wp2_with (at_builtin; refine mk_stop ?_)
      refine wpList_apB1 rfl _ _ rfl w.heap.size _ _ (by rfl) hown _ (by rfl) (be8b s q) (be8b_lt s q) (by unfold be8b; rw [show 56 - 8 * q = 8 * (7 - q) by omega]; push_cast; rfl) (by simp [be8To_len]; omega) hz ?_
      intro v2 w2 hown2 hg2 hat2
      go_wp2
      go_roundw
      case rel => exact ⟨q + 1, by go_num, by omega, by rw [be8To_succ, ← List.append_assoc]; exact hown2, hbel.grown hg2 hz (fun k hk => (hown.lt k hk).1)⟩
      case measure => simp [intOf]; omega
    · have hq9 : q = 8 := by omega
      subst hq9
      go_wp2
      go_ret
      exact ⟨_, rfl, by rw [hres.out]; exact hown, hbel⟩

end Go.Proofs.Ytbcmpfdhpefdbaa
