/- The contracts of package codec, third part. -/
import Derived.Test.YtbcmpfdhpefdbaaCodec2
import Derived.Deep.RegionLaw
set_option linter.unusedVariables false
set_option linter.unusedSimpArgs false
namespace Go.Proofs.Ytbcmpfdhpefdbaa
open Go.RowKit

def B8.cells (x : B8) : Array Value := #[B x.b0, B x.b1, B x.b2, B x.b3, B x.b4, B x.b5, B x.b6, B x.b7]
theorem B8.cells_list (x : B8) : x.cells.toList = x.list.map B := rfl

theorem ofInt_i64 (a : Nat) (ha : a < 9223372036854775808) : (BitVec.ofInt 64 (a : Int)).toNat = a := by
  rw [BitVec.ofInt_natCast, BitVec.toNat_ofNat]; exact Nat.mod_eq_of_lt (by omega)
theorem i64_xor_nat (a b : Nat) (ha : a < 9223372036854775808) (hb : b < 9223372036854775808) : bits .xor .i64 (a : Int) (b : Int) = ((a ^^^ b : Nat) : Int) := by
  have hx : a ^^^ b < 2 ^ 63 := Nat.xor_lt_two_pow (by omega) (by omega)
  show IntKind.i64.wrap ((BitVec.ofInt 64 (a : Int) ^^^ BitVec.ofInt 64 (b : Int)).toNat : Int) = _
  rw [BitVec.toNat_xor, ofInt_i64 a ha, ofInt_i64 b hb, IntKind.wrap_i64]
  omega
theorem i64_xor_m1 (a : Nat) (ha : a < 9223372036854775808) : bits .xor .i64 ((a : Nat) : Int) (-1) = -((a : Nat) : Int) - 1 := by
  show IntKind.i64.wrap ((BitVec.ofInt 64 (a : Int) ^^^ BitVec.ofInt 64 (-1)).toNat : Int) = _
  have e : BitVec.ofInt 64 (-1) = BitVec.allOnes 64 := by decide
  rw [e, BitVec.xor_allOnes, BitVec.toNat_not, ofInt_i64 a ha, IntKind.wrap_i64]
  omega

theorem Rdr.alloc {T : TypeId} {w : World} {F : Nat → Prop} {g : Nat} {st : RS} (h : Rdr T w F g st) (hF : ∀ k, F k → k < w.heap.size) (o : Obj) : Rdr T (w.alloc o) F g st := by
  obtain ⟨A, n, c, b, hb, h1, h2, h3⟩ := h
  refine ⟨A, n, c, b, hb.alloc o, h1, h2, ?_⟩
  cases st with
  | none => exact h3
  | some bs => exact ⟨h3.1, h3.2.keep fun k hk => Below.heap_alloc w o k (hF k hk)⟩

/-- what 'Int' answers -/
def IntPost (T : TypeId) (F : Nat → Prop) (w : World) (g : Nat) (st : RS) (e : Ending) (w' : World) : Prop :=
  e = .returned (.tuple #[.int .i64 (rInt st).1, .int .i64 (rErr (rInt st).2)]) ∧ Rdr T w' F g (rInt st).2 ∧ w.grownBy w' (some g)

set_option maxRecDepth 100000 in
set_option maxHeartbeats 400000 in
theorem int_any (F : Nat → Prop) (g : Nat) (st : RS) (w : World) (h : Rdr 107 w F g st) (hl : rLeft st ≤ 1099511627776) (hF : ∀ k, F k → k < w.heap.size ∧ k ≠ g) :
    Calls Try.prog 88 #[.pointer (some ⟨g, 0, none⟩)] w (IntPost 107 F w g st) := by
  have hd : Hid (rInt st = (zag (rUint st).1, (rUint st).2)) := by
    unfold rInt
    split
    · rename_i e
      have : rUint st = (0, none) := by
        unfold rUint at e ⊢
        split
        · rfl
        · split <;> simp_all
      rw [this]; rfl
    · rename_i e; exact hid (by simp [e])
  have hbd := rUint_bd st
  go_enter Try.func88, Try.ntmps88
  go_wp2_with fail
  refine (uint_any F g st _ h hl hF).mono ?_
  rintro e w1 ⟨rfl, hr1, hg1⟩
  generalize (rUint st).1 = n at *
  generalize (rUint st).2 = s at *
  by_cases h2 : n % 2 = 0
  · have ha : bits .and .u64 (n : Int) 1 = 0 := by
      rw [show (1 : Int) = ((1 : Nat) : Int) from rfl, u64_and_nat _ _ hbd (by decide), Nat.and_one_is_mod, h2]; rfl
    have hx : bits .xor .i64 ((n : Int) / 2) 0 = zag n := by
      have : bits .xor .i64 (((n / 2 : Nat) : Int)) ((0 : Nat) : Int) = (((n / 2) ^^^ 0 : Nat) : Int) := i64_xor_nat _ _ (by omega) (by omega)
      rw [Nat.xor_zero] at this
      unfold zag; rw [if_pos h2, ← this]; rfl
    go_wp2
    go_ret2
    exact ⟨by rw [hd.out]; rfl, by rw [hd.out]; exact hr1, hg1⟩
  · have ha : bits .and .u64 (n : Int) 1 = 1 := by
      rw [show (1 : Int) = ((1 : Nat) : Int) from rfl, u64_and_nat _ _ hbd (by decide), Nat.and_one_is_mod, show n % 2 = 1 by omega]
    have hx : bits .xor .i64 ((n : Int) / 2) (-1) = zag n := by
      unfold zag; rw [if_neg h2]; exact i64_xor_m1 (n / 2) (by omega)
    go_wp2
    go_ret2
    exact ⟨by rw [hd.out]; rfl, by rw [hd.out]; exact hr1, hg1⟩

/-- what 'Block' answers -/
def BlockPost (T : TypeId) (F : Nat → Prop) (w : World) (g : Nat) (st : RS) (e : Ending) (w' : World) : Prop :=
  e = .returned (.tuple #[.agg (rBlock st).1.cells, .int .i64 (rErr (rBlock st).2)]) ∧ Rdr T w' F g (rBlock st).2 ∧ w.grownBy w' (some g)

theorem list8 {l : List UInt8} (h : l.length = 8) : l = (B8.of l).list := by
  match l, h with
  | [a0, a1, a2, a3, a4, a5, a6, a7], _ => rfl
theorem B8.of_take (l : List UInt8) (h : 8 ≤ l.length) : B8.of (l.take 8) = B8.of l := by
  match l, h with
  | a0 :: a1 :: a2 :: a3 :: a4 :: a5 :: a6 :: a7 :: r, _ => rfl

theorem run_arrayAt (b o : Nat) : ∀ w : World, (Instr.arrayAt 75 (.slice (some ⟨b, o, none⟩) 8 8)).run Try.prog w = .ok (.pointer (some ⟨b, o, none⟩)) w := fun w => by
  have hrow : Try.prog.underlying 75 = some (.array 8 5) := by kernel_rfl
  simp [Instr.arrayAt, run_underlying hrow]

set_option maxRecDepth 100000 in
set_option maxHeartbeats 400000 in
theorem block_any (F : Nat → Prop) (g : Nat) (st : RS) (w : World) (h : Rdr 107 w F g st) (hl : rLeft st ≤ 1099511627776) (hF : ∀ k, F k → k < w.heap.size ∧ k ≠ g) :
    Calls Try.prog 87 #[.pointer (some ⟨g, 0, none⟩)] w (BlockPost 107 F w g st) := by
  have hgl : g < w.heap.size := by obtain ⟨_, _, _, _, hb, _⟩ := h; exact hb.lt
  have hbad : ∀ w1, (w.alloc (.cells B8.zero.cells 75)).grownBy w1 (some g) → Blk w1 w.heap.size 75 B8.zero.cells ∧ w.grownBy w1 (some g) := fun w1 hg1 =>
    ⟨(Blk.new w _ _).grown hg1 (by intro e; injection e; omega), (World.grownBy_alloc w _ _).trans hg1⟩
  have hbad := hid hbad
  have hrow : Try.prog.underlying 75 = some (.array 8 5) := by kernel_rfl
  have hinf : (Try.prog.info? 75).map (·.size) = some 8 := by kernel_rfl
  have hrow := hid hrow
  have hinf := hid hinf
  unfold B8.zero B8.cells B at hbad
  go_enter Try.func87, Try.ntmps87
  go_wp2_with fail
  by_cases hn : 8 ≤ rLeft st
  · cases st with
    | none => simp [rLeft] at hn
    | some bs =>
    refine (take_ok F g bs 8 _ (h.alloc (fun k hk => (hF k hk).1) _) (fun k hk => ⟨by have := (hF k hk).1; simp; omega, (hF k hk).2⟩) hn hl).mono ?_
    rintro e w1 ⟨A, rfl, hA, hr1, hg1⟩
    obtain ⟨hB, hg⟩ := hbad.out w1 hg1
    obtain ⟨b, o, rfl, hb, hc⟩ := hA.2.2 (by omega)
    rw [list8 (l := List.take 8 bs) (by simp only [rLeft] at hn; simp; omega), B8.of_take bs hn] at hc
    have e1 : rBlock (some bs) = (B8.of bs, some (bs.drop 8)) := by simp only [rLeft] at hn; simp [rBlock, hn]
    have e1 := hid e1
    generalize B8.of bs = x at *
    have hc' := hid hc
    clear hc
    have hc := hc'
    clear hc'
    have harr := run_arrayAt b o
    go_wp2_with (first | (refine wpList_ldAt rfl 75 _ rfl b o (x.list.map B) _ rfl hc.out hrow.out rfl hinf.out ?_) | (refine wpList_stBlk rfl 75 _ _ rfl w.heap.size 75 _ x.cells hB rfl rfl hinf.out rfl rfl ?_; intro w2 hB2 hg2))
    refine bodyPost_ret (results_ct rfl rfl hB2 hrow.out rfl hinf.out) rfl ?_
    refine ⟨by rw [e1.out]; rfl, ?_, ?_⟩
    · rw [e1.out]
      obtain ⟨A, n, c, b, hb, h1, h2, h3, h4⟩ := hr1
      exact ⟨A, n, c, b, hb.grown hg2 (by intro e; injection e; omega), h1, h2, h3, h4.keep (fun k hk => hg2.block k (Nat.lt_of_lt_of_le (hF k hk).1 hg.size) (by intro e; injection e; have := (hF k hk).1; omega))⟩
    · exact grown_trans_new hg hg2 (Nat.le_refl _)
  · refine (take_bad F g st 8 _ (h.alloc (fun k hk => (hF k hk).1) _) hl (.inr (by omega)) (by decide)).mono ?_
    rintro e w1 ⟨rfl, hr1, hg1⟩
    obtain ⟨hB, hg⟩ := hbad.out w1 hg1
    have e1 : rBlock st = (B8.zero, none) := by unfold rBlock; cases st with | none => rfl | some bs => simp only [rLeft] at hn; simp [hn]
    have e1 := hid e1
    go_wp2_with (refine wpList_stBlk rfl 75 _ _ rfl w.heap.size 75 _ #[Value.int .u8 0, Value.int .u8 0, Value.int .u8 0, Value.int .u8 0, Value.int .u8 0, Value.int .u8 0, Value.int .u8 0, Value.int .u8 0] hB rfl rfl hinf.out rfl rfl ?_; intro w2 hB2 hg2)
    refine bodyPost_ret (results_ct rfl rfl hB2 hrow.out rfl hinf.out) rfl ?_
    refine ⟨by rw [e1.out]; rfl, ?_, ?_⟩
    · rw [e1.out]
      obtain ⟨A, n, c, b, hb, h1, h2, h3⟩ := hr1
      exact ⟨A, n, c, b, hb.grown hg2 (by intro e; injection e; omega), h1, h2, h3⟩
    · exact grown_trans_new hg hg2 (Nat.le_refl _)

set_option maxRecDepth 100000 in
set_option maxHeartbeats 400000 in
theorem appendBytes_any (F : Nat → Prop) (A : Option Addr) (k c : Nat) (bs : List UInt8) (G : Nat → Prop) (A' : Option Addr) (k' c' : Nat) (ys : List UInt8) (w : World) (h : RdB w F A k bs) (h' : RdB w G A' k' ys)
    (hl : bs.length + ys.length ≤ 100000000) (hF : ∀ k, F k → k < w.heap.size) (hG : ∀ k, G k → k < w.heap.size) :
    Calls Try.prog 53 #[.slice A k c, .slice A' k' c'] w (RetB w.heap.size w (bs ++ enc ys.length ++ ys)) := by
  have hk := h'.1
  have hkl : k' ≤ 100000000 := by omega
  have hen := enc_len10 (n := ys.length) (by omega)
  clear hk
  go_enter Try.func53, Try.ntmps53
  go_wp2_with fail
  refine (appendUint_any F _ _ _ bs k' _ h (by omega) hF (by omega)).mono ?_
  rintro e w1 ⟨v1, rfl, hown, hbel⟩
  go_wp2_with (at_builtin; refine mk_stop ?_)
  refine wpList_apB rfl _ _ rfl w.heap.size _ _ (by rfl) hown G A' k' c' ys rfl (h'.keep (Kp.of_below hbel hG)) (by have := h'.1; rw [← this] at hen; simp; omega) hbel.size ?_
  intro v2 w2 hown2 hg2 hat2
  go_wp2
  go_ret
  refine ⟨v2, rfl, by rw [← h'.1]; exact hown2, hbel.grown hg2 hbel.size (fun k hk => (hown.lt k hk).1)⟩

set_option maxRecDepth 100000 in
set_option maxHeartbeats 400000 in
theorem appendBlock_any (F : Nat → Prop) (A : Option Addr) (k c : Nat) (bs : List UInt8) (x : B8) (w : World) (h : RdB w F A k bs) 
    (hl : bs.length  ≤ 100000000) (hF : ∀ k, F k → k < w.heap.size)  :
    Calls Try.prog 78 #[.slice A k c, .agg x.cells] w (RetB w.heap.size w (bs ++ x.list)) := by
  unfold B8.cells B
  have hx : RdB (w.alloc (.cells x.cells 75)) (fun k => k = w.heap.size) (some ⟨w.heap.size, 0, none⟩) 8 x.list :=
    ⟨rfl, rfl, fun _ => ⟨_, _, rfl, rfl, fun j u hu => by
      rw [cell_of_row _ _ _ _ _ _ (heap_alloc_new w _), Nat.zero_add, ← Array.getElem?_toList, B8.cells_list]; exact hu⟩⟩
  have h1 : RdB (w.alloc (.cells x.cells 75)) F A k bs := h.keep fun k hk => Below.heap_alloc w _ _ (hF k hk)
  have hF1 : ∀ k, F k → k < (w.alloc (.cells x.cells 75)).heap.size := fun k hk => by have := hF k hk; simp; omega
  unfold B8.cells B at hx h1 hF1
  go_enter Try.func78, Try.ntmps78
  go_wp2_with fail
  go_region_held3 (fun _ => True) (trivial) (first | (go_at_call 58; refine (clone_any F _ _ _ bs _ h1.drew (by omega) hF1).mono ?_; rintro e w1 ⟨v1, rfl, hown, hbel⟩) | (refine step_apB (by rfl) _ _ (by rfl) w.heap.size _ _ (by rfl) (hown.lower (by simp)) _ _ _ _ _ (by rfl) (hx.drew.keep (Kp.of_below hbel (fun k hk => by simp [hk]))) (by simp [B8.list]; omega) (by have := hbel.size; simp at this; omega) ?_; intro v2 w2 hown2 hg2 hat2))
  go_wp2
  go_ret
  have hb1 : Below w.heap.size w w1 := ((Below.refl _ _).alloc (Nat.le_refl _) _).drew.trans (hbel.mono (by simp))
  exact ⟨v2, rfl, hown2, hb1.grown hg2 hb1.size (fun k hk => by have := (hown.lt k hk).1; simp at this; omega)⟩

theorem xor_pos {n : Int} (h0 : 0 ≤ n) (h1 : n ≤ 9223372036854775807) : bits .xor .u64 (n * 2) (n / 9223372036854775808) = (zig n : Nat) := by
  obtain ⟨m, rfl⟩ := Int.eq_ofNat_of_zero_le h0
  have := u64_xor_nat (m * 2) 0 (by omega) (by decide)
  rw [Nat.xor_zero] at this
  rw [show ((m : Int) / 9223372036854775808) = ((0 : Nat) : Int) by omega, show (m : Int) * 2 = ((m * 2 : Nat) : Int) by omega, this]
  unfold zig; rw [if_pos (by omega)]; omega
theorem xor_neg {n : Int} (h0 : -9223372036854775808 ≤ n) (h1 : n < 0) : bits .xor .u64 (IntKind.u64.wrap (IntKind.u64.wrap n * 2)) (IntKind.u64.wrap (n / 9223372036854775808)) = (zig n : Nat) := by
  have e1 : IntKind.u64.wrap (n / 9223372036854775808) = ((18446744073709551615 : Nat) : Int) := by rw [IntKind.wrap_u64]; omega
  have e2 : IntKind.u64.wrap (IntKind.u64.wrap n * 2) = ((18446744073709551615 - (2 * (-n - 1).toNat + 1) : Nat) : Int) := by rw [IntKind.wrap_u64, IntKind.wrap_u64]; omega
  rw [e1, e2, u64_xor_nat _ _ (by omega) (by decide)]
  have hz : zig n = 2 * (-n - 1).toNat + 1 := by unfold zig; rw [if_neg (by omega)]
  rw [hz]
  generalize hm : 2 * (-n - 1).toNat + 1 = m
  have hm2 : m < 18446744073709551616 := by omega
  clear hz e1 e2 hm h0 h1
  have key : (BitVec.ofNat 64 (18446744073709551615 - m) ^^^ BitVec.allOnes 64).toNat = m := by
    rw [BitVec.xor_allOnes, BitVec.toNat_not, BitVec.toNat_ofNat, Nat.mod_eq_of_lt (by omega)]
    omega
  rw [BitVec.toNat_xor, BitVec.toNat_ofNat, Nat.mod_eq_of_lt (by omega)] at key
  have e : (BitVec.allOnes 64).toNat = 18446744073709551615 := by decide
  rw [e] at key
  rw [key]

set_option maxRecDepth 100000 in
set_option maxHeartbeats 400000 in
theorem appendInt_any (F : Nat → Prop) (A : Option Addr) (k c : Nat) (bs : List UInt8) (n : Int) (w : World) (h : RdB w F A k bs) (hl : bs.length ≤ 100000000) (hF : ∀ k, F k → k < w.heap.size)
    (h0 : -9223372036854775808 ≤ n) (h1 : n ≤ 9223372036854775807) :
    Calls Try.prog 79 #[.slice A k c, .int .i64 n] w (RetB w.heap.size w (bs ++ enc (zig n))) := by
  have hz := zig_lt h0 h1
  by_cases hn : 0 ≤ n
  · have e := hid (xor_pos hn h1)
    go_enter Try.func79, Try.ntmps79
    go_wp2_with fail
    rw [e.out]
    refine (appendUint_any F _ _ _ bs _ _ h (by omega) hF hz).mono ?_
    rintro e w1 ⟨v1, rfl, hown, hbel⟩
    go_wp2
    go_ret
    exact ⟨v1, rfl, hown, hbel⟩
  · have hn : n < 0 := by omega
    have e := hid (xor_neg h0 hn)
    go_enter Try.func79, Try.ntmps79
    go_wp2_with fail
    rw [e.out]
    refine (appendUint_any F _ _ _ bs _ _ h (by omega) hF hz).mono ?_
    rintro e w1 ⟨v1, rfl, hown, hbel⟩
    go_wp2
    go_ret
    exact ⟨v1, rfl, hown, hbel⟩

end Go.Proofs.Ytbcmpfdhpefdbaa
