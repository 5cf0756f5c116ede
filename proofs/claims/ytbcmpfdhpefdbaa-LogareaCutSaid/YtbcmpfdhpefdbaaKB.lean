/- The contracts of package codec: what each function answers, in the words of the plain functions. The contracts of package codec, second part. The contracts of package codec, third part. -/
import Derived.Test.YtbcmpfdhpefdbaaKA
import Derived.BigQuiet
import Derived.Deep.QuietTactic
import Derived.Deep.RegionHeld3
import Derived.Deep.RegionLaw
set_option linter.unusedVariables false
set_option linter.unusedSimpArgs false
namespace Go.Proofs.Ytbcmpfdhpefdbaa
open Go.RowKit

set_option maxRecDepth 100000 in
set_option maxHeartbeats 400000 in
theorem clone_any (F : Nat → Prop) (A : Option Addr) (n c : Nat) (bs : List UInt8) (w : World) (h : RdB w F A n bs) (hl : bs.length ≤ 1099511627776) (hF : ∀ k, F k → k < w.heap.size) :
    Calls Try.prog 58 #[.slice A n c] w (RetB w.heap.size w bs) := by
  have hneq := @Lib.run_eql_slice_nil Try.prog
  rcases A with _ | ad
  · have hb : bs = [] := by
      rcases Nat.eq_zero_or_pos n with h0 | h0
      · exact List.eq_nil_of_length_eq_zero (by rw [← h.1]; exact h0)
      · obtain ⟨_, _, e, _⟩ := h.2.2 h0; cases e
    subst hb
    go_enter Try.func58, Try.ntmps58
    go_wp2
    go_ret
    exact ⟨_, rfl, OwnB.nil_, Below.refl _ _⟩
  · have h1 : RdB (w.alloc (.cells #[] 5)) F (some ad) n bs := h.keep fun k hk => Below.heap_alloc w _ _ (hF k hk)
    go_enter Try.func58, Try.ntmps58
    go_wp2_with (at_builtin; refine wpList_apB rfl _ _ rfl w.heap.size _ [] (by rfl) (OwnB.made (Nat.le_refl _)) F (some ad) n c bs rfl h1 (by simpa using hl) (by simp) ?_; intro v1 w1 hown hg hat)
    go_ret
    refine ⟨v1, rfl, by simpa using hown, ?_⟩
    exact ((Below.refl _ _).alloc (Nat.le_refl _) _).grown hg (by simp) (by simp [Value.ownBlock])

theorem or_128 (x : Nat) (h : x < 256) : bits .or .u8 (x : Int) 128 = ((x % 128 + 128 : Nat) : Int) := by
  have : ∀ y : Fin 256, bits .or .u8 (y.val : Int) 128 = ((y.val % 128 + 128 : Nat) : Int) := by decide +kernel
  exact this ⟨x, h⟩
theorem or_128' (k : Nat) : bits .or .u8 ((k : Int) % 256) 128 = ((k % 128 + 128 : Nat) : Int) := by
  have := or_128 (k % 256) (by omega)
  rw [show k % 256 % 128 = k % 128 by omega] at this
  rw [← this]; rfl

set_option maxRecDepth 100000 in
set_option maxHeartbeats 400000 in
theorem appendUint_any (F : Nat → Prop) (A : Option Addr) (k c : Nat) (bs : List UInt8) (n : Nat) (w : World) (h : RdB w F A k bs) (hl : bs.length ≤ 1000000000) (hF : ∀ k, F k → k < w.heap.size) (hn : n < 18446744073709551616) :
    Calls Try.prog 80 #[.slice A k c, .int .u64 (n : Int)] w (RetB w.heap.size w (bs ++ enc n)) := by
  have hen := enc_len10 hn
  go_enter Try.func80, Try.ntmps80
  go_wp2_with (go_at_call 58; refine (clone_any F _ _ _ bs _ h (by omega) hF).mono ?_; rintro e w1 ⟨v1, rfl, hown, hbel⟩)
  go_loopw [5, 1] (fun out m wr => ∃ (k : Nat) (d : List UInt8), m = .int .u64 (k : Int) ∧ OwnB w.heap.size wr out (bs ++ d) ∧ Below w.heap.size w wr ∧ Hid (d ++ enc k = enc n) ∧ k ≤ n) (fun _ m _ => (intOf m).toNat)
  case atStart => exact ⟨n, [], rfl, by simpa using hown, hbel, rfl, Nat.le_refl _⟩
  case round =>
    clear hown hbel
    obtain ⟨k, d, rfl, hown, hbel, hd, hk⟩ := hrel
    have hdl : d.length ≤ 10 := by have := congrArg List.length hd.out; simp at this; omega
    by_cases hlt : k < 128
    · go_wp2_with (at_builtin; refine mk_stop ?_)
      refine wpList_apB1 rfl _ _ rfl w.heap.size _ _ (by rfl) hown _ (by rfl) k (by omega) rfl (by simp; omega) hbel.size ?_
      intro v2 w2 hown2 hg2 hat2
      go_wp2
      go_ret
      refine ⟨v2, rfl, ?_, hbel.grown hg2 hbel.size (fun k hk => (hown.lt k hk).1)⟩
      rw [← hd.out, enc_small hlt]
      simpa using hown2
    · go_wp2_with (at_builtin; refine mk_stop ?_)
      refine wpList_apB1 rfl _ _ rfl w.heap.size _ _ (by rfl) hown _ (by rfl) (k % 128 + 128) (by omega) (or_128' k) (by simp; omega) hbel.size ?_
      intro v2 w2 hown2 hg2 hat2
      go_wp2
      go_roundw
      case rel => exact ⟨k / 128, d ++ [UInt8.ofNat (k % 128 + 128)], by go_num, by simpa using hown2, hbel.grown hg2 hbel.size (fun k hk => (hown.lt k hk).1), hid (by rw [← hd.out, enc_big hlt]; simp), by omega⟩
      case measure => simp [intOf]; omega

/-- A reader of type T in block g: what it has not read lies in F. -/
def Rdr (T : TypeId) (w : World) (F : Nat → Prop) (g : Nat) (st : RS) : Prop :=
  ∃ A n c b, Blk w g T #[.slice A n c, .bool b] ∧ n ≤ c ∧ c ≤ maxLen ∧
    match st with
    | none => b = true ∧ A = none ∧ n = 0 ∧ c = 0
    | some bs => b = false ∧ RdB w F A n bs

/-- what 'fail' answers -/
def FailPost (T : TypeId) (w : World) (g : Nat) (e : Ending) (w' : World) : Prop := e = .returned (.int .i64 5) ∧ Blk w' g T #[.slice none 0 0, .bool true] ∧ w.grownBy w' (some g)

set_option maxRecDepth 100000 in
set_option maxHeartbeats 400000 in
theorem fail_any (g : Nat) (u v : Value) (w : World) (h : Blk w g 107 #[u, v]) :
    Calls Try.prog 83 #[.pointer (some ⟨g, 0, none⟩)] w (FailPost 107 w g) := by
  have h0 := h.cell 0
  have h1 := h.cell 1
  have f0 := h.frozen 0
  have f1 := h.frozen 1
  go_enter Try.func83, Try.ntmps83
  go_wp2
  go_ret
  refine ⟨rfl, ?_, ?_⟩
  · exact (h.set2_0 _).set2_1 _
  · exact only_set (only_set (only_refl _ _) 0 _) 1 _

/-- what 'take' answers -/
def TakeOk (w : World) (F : Nat → Prop) (g : Nat) (n : Nat) (bs : List UInt8) (e : Ending) (w' : World) : Prop :=
  ∃ A, e = .returned (.tuple #[.slice A n n, .int .i64 0]) ∧ RdB w' F A n (bs.take n) ∧ Rdr 107 w' F g (some (bs.drop n)) ∧ w.grownBy w' (some g)

theorem RdB.cut {w : World} {F : Nat → Prop} {A : Option Addr} {k : Nat} {bs : List UInt8} (h : RdB w F A k bs) {n c : Nat} (hn : n ≤ k) (hc : k ≤ c) : RdB w F (cutA A c n 1) (k - n) (bs.drop n) := by
  obtain ⟨rfl, h⟩ := h
  refine ⟨by simp, ?_⟩
  have := h.cut hn hc
  rw [Nat.mul_one] at this
  rw [List.map_drop]; exact this
theorem RdB.take_ {w : World} {F : Nat → Prop} {A : Option Addr} {k : Nat} {bs : List UInt8} (h : RdB w F A k bs) {n : Nat} (hn : n ≤ k) : RdB w F A n (bs.take n) := by
  obtain ⟨rfl, h⟩ := h
  refine ⟨by simp; omega, ?_⟩
  have := h.take_ hn
  rw [Nat.mul_one] at this
  rw [List.map_take]; exact this

set_option maxRecDepth 100000 in
set_option maxHeartbeats 400000 in
theorem take_ok (F : Nat → Prop) (g : Nat) (bs : List UInt8) (n : Nat) (w : World) (h : Rdr 107 w F g (some bs))
    (hF : ∀ k, F k → k < w.heap.size ∧ k ≠ g) (hn : n ≤ bs.length) (hl : bs.length ≤ 1099511627776) :
    Calls Try.prog 82 #[.pointer (some ⟨g, 0, none⟩), .int .u64 (n : Int)] w (TakeOk w F g n bs) := by
  obtain ⟨A, k, c, b, h, hkc, hcm, rfl, hr⟩ := h
  have h0 := h.cell 0
  have h1 := h.cell 1
  have f0 := h.frozen 0
  have hkn : n ≤ k := by rw [hr.1]; exact hn
  have hkl : k ≤ 1099511627776 := by rw [hr.1]; exact hl
  have kp : ∀ u, Kp F w (w.setCell ⟨g, 0, none⟩ u) := fun u j hj => Below.heap_setCell w _ u j (hF j hj).2
  by_cases hc : c = n
  · have hcut := hr.cut hkn hkc
    unfold cutA at hcut
    rw [if_pos hc] at hcut
    have htk := hr.take_ hkn
    go_enter Try.func82, Try.ntmps82
    go_wp2
    go_ret2
    exact ⟨A, rfl, htk.keep (kp _), ⟨_, _, _, _, h.set2_0 _, by omega, Nat.zero_le _, rfl, hcut.keep (kp _)⟩, only_set (only_refl _ _) 0 _⟩
  · have hcut := hr.cut hkn hkc
    unfold cutA at hcut
    rw [if_neg hc] at hcut
    have htk := hr.take_ hkn
    go_enter Try.func82, Try.ntmps82
    go_wp2
    go_ret2
    exact ⟨A, rfl, htk.keep (kp _), ⟨_, _, _, _, h.set2_0 _, by omega, by omega, rfl, by simpa using hcut.keep (kp _)⟩, only_set (only_refl _ _) 0 _⟩

set_option maxRecDepth 100000 in
set_option maxHeartbeats 400000 in
theorem take_bad (F : Nat → Prop) (g : Nat) (st : RS) (n : Nat) (w : World) (h : Rdr 107 w F g st) (hl : rLeft st ≤ 1099511627776)
    (hn : st = none ∨ rLeft st < n) (hb : n < 18446744073709551616) :
    Calls Try.prog 82 #[.pointer (some ⟨g, 0, none⟩), .int .u64 (n : Int)] w fun e w' => e = .returned (.tuple #[.slice none 0 0, .int .i64 5]) ∧ Rdr 107 w' F g none ∧ w.grownBy w' (some g) := by
  obtain ⟨A, k, c, b, h, hkc, hcm, hm⟩ := h
  have h0 := h.cell 0
  have h1 := h.cell 1
  cases st with
  | none =>
    obtain ⟨rfl, rfl, rfl, rfl⟩ := hm
    go_enter Try.func82, Try.ntmps82
    go_wp2_with (go_at_call 83; go_must (refine (fail_any g _ _ _ h).mono ?_); rintro e w1 ⟨rfl, hb1, hg1⟩)
    go_ret2
    exact ⟨rfl, ⟨_, _, _, _, hb1, Nat.le_refl _, Nat.zero_le _, rfl, rfl, rfl, rfl⟩, hg1⟩
  | some bs =>
    obtain ⟨rfl, hr⟩ := hm
    have hkl : k ≤ 1099511627776 := by rw [hr.1]; exact hl
    have hkn : k < n := by rw [hr.1]; rcases hn with hn | hn; cases hn; exact hn
    go_enter Try.func82, Try.ntmps82
    go_wp2_with (go_at_call 83; go_must (refine (fail_any g _ _ _ h).mono ?_); rintro e w1 ⟨rfl, hb1, hg1⟩)
    go_ret2
    exact ⟨rfl, ⟨_, _, _, _, hb1, Nat.le_refl _, Nat.zero_le _, rfl, rfl, rfl, rfl⟩, hg1⟩

/-- what 'New' answers -/
def NewPost (T : TypeId) (w : World) (bs : List UInt8) (e : Ending) (w' : World) : Prop :=
  ∃ g, e = .returned (.pointer (some ⟨g, 0, none⟩)) ∧ Rdr T w' (fun k => w.heap.size ≤ k ∧ k < g) g (some bs) ∧ Below w.heap.size w w' ∧ w.heap.size ≤ g ∧ g < w'.heap.size

set_option maxRecDepth 100000 in
set_option maxHeartbeats 400000 in
theorem new_any (F : Nat → Prop) (A : Option Addr) (n c : Nat) (bs : List UInt8) (w : World) (h : RdB w F A n bs) (hl : bs.length ≤ 1099511627776) (hF : ∀ k, F k → k < w.heap.size) :
    Calls Try.prog 59 #[.slice A n c] w (NewPost 107 w bs) := by
  go_enter Try.func59, Try.ntmps59
  go_wp2_with fail
  refine (clone_any F _ _ _ bs _ h hl hF).mono ?_
  rintro e w1 ⟨v1, rfl, hown, hbel⟩
  obtain ⟨A', c', rfl, hc, hm⟩ := hown.form
  have hr := hown.rd
  have hz := hbel.size
  go_wp2
  go_ret
  refine ⟨_, rfl, ⟨_, _, _, _, Blk.new _ _ _, hc, hm, rfl, ?_⟩, hbel.alloc hbel.size _, hbel.size, by simp⟩
  refine ⟨hr.1, (hr.2.keep (w' := w1.alloc _) (fun k hk => Below.heap_alloc w1 _ _ hk.1)).more (fun k hk => ⟨hk.2, hk.1⟩)⟩

/-- what 'Uint' answers -/
def UintPost (T : TypeId) (F : Nat → Prop) (w : World) (g : Nat) (st : RS) (e : Ending) (w' : World) : Prop :=
  e = .returned (.tuple #[.int .u64 ((rUint st).1 : Nat), .int .i64 (rErr (rUint st).2)]) ∧ Rdr T w' F g (rUint st).2 ∧ w.grownBy w' (some g)

theorem and_127 (x : Nat) (h : x < 256) : bits .and .u64 (x : Int) 127 = ((x % 128 : Nat) : Int) := by
  have : ∀ y : Fin 256, bits .and .u64 (y.val : Int) 127 = ((y.val % 128 : Nat) : Int) := by decide +kernel
  exact this ⟨x, h⟩
theorem acc_bd (j x : Nat) (hj : j ≤ 9) (h9 : j = 9 → x ≤ 1) : x % 128 * 2 ^ (7 * j) ≤ 9223372036854775808 := by
  by_cases h : j = 9
  · subst h
    have : x % 128 ≤ 1 := by omega
    calc x % 128 * 2 ^ (7 * 9) ≤ 1 * 2 ^ 63 := Nat.mul_le_mul_right _ this
      _ ≤ _ := by decide
  · calc x % 128 * 2 ^ (7 * j) ≤ 127 * 2 ^ 56 := Nat.mul_le_mul (by omega) (Nat.pow_le_pow_right (by decide) (by omega))
      _ ≤ _ := by decide
theorem pow_128 (j : Nat) : (128 : Nat) ^ j = 2 ^ (7 * j) := by rw [Nat.pow_mul]
theorem acc_or (a j x : Nat) (ha : a < 128 ^ j) (hj : j ≤ 9) (hx : x < 256) (h9 : j = 9 → x ≤ 1) :
    bits .or .u64 (a : Int) (IntKind.u64.wrap (bits .and .u64 (x : Int) 127 * 2 ^ (7 * j))) = ((a + x % 128 * 128 ^ j : Nat) : Int) := by
  have hb := acc_bd j x hj h9
  have ha2 : (128 : Nat) ^ j ≤ 9223372036854775808 := Nat.le_trans (Nat.pow_le_pow_right (by decide) hj) (by decide : (128:Nat)^9 ≤ 9223372036854775808)
  rw [and_127 x hx, show (((x % 128 : Nat) : Int) * 2 ^ (7 * j)) = ((x % 128 * 2 ^ (7 * j) : Nat) : Int) by push_cast; rfl, IntKind.wrap_u64,
    show ((x % 128 * 2 ^ (7 * j) : Nat) : Int) % 18446744073709551616 = ((x % 128 * 2 ^ (7 * j) : Nat) : Int) by omega,
    u64_or_nat _ _ (by omega) (by omega), pow_128]
  rw [pow_128] at ha
  congr 1
  rw [Nat.or_comm, Nat.mul_comm, ← Nat.two_pow_add_eq_or_of_lt ha, Nat.add_comm]
theorem acc_or9 (a x : Nat) (ha : a < 128 ^ 9) (hx : x ≤ 1) :
    bits .or .u64 (a : Int) (IntKind.u64.wrap (bits .and .u64 (x : Int) 127 * 9223372036854775808)) = ((a + x % 128 * 128 ^ 9 : Nat) : Int) := by
  have := acc_or a 9 x ha (Nat.le_refl _) (by omega) (fun _ => hx)
  rw [← this]; rfl
theorem acc_or91 (a : Nat) (ha : a < 128 ^ 9) : bits .or .u64 (a : Int) (IntKind.u64.wrap (bits .and .u64 1 127 * 9223372036854775808)) = ((a + UInt8.toNat 1 % 128 * 128 ^ 9 : Nat) : Int) :=
  acc_or9 a 1 ha (by omega)
theorem acc_or00 (a : Nat) (ha : a < 128 ^ 0) : bits .or .u64 (a : Int) (IntKind.u64.wrap (bits .and .u64 0 127)) = ((a + UInt8.toNat 0 % 128 * 128 ^ 0 : Nat) : Int) := by
  have := acc_or a 0 0 ha (by omega) (by omega) (by omega)
  rw [← show _ = ((a + UInt8.toNat 0 % 128 * 128 ^ 0 : Nat) : Int) from this]; rfl

set_option maxRecDepth 100000 in
set_option maxHeartbeats 400000 in
theorem uint_any (F : Nat → Prop) (g : Nat) (st : RS) (w : World) (h : Rdr 107 w F g st) (hl : rLeft st ≤ 1099511627776) (hF : ∀ k, F k → k < w.heap.size ∧ k ≠ g) :
    Calls Try.prog 60 #[.pointer (some ⟨g, 0, none⟩)] w (UintPost 107 F w g st) := by
  go_enter Try.func60, Try.ntmps60
  go_wp2_with fail
  go_loopw [4, 9] (fun acc i wr => ∃ (j a : Nat) (s : RS), i = .int .i64 (j : Int) ∧ acc = .int .u64 (a : Int) ∧ Rdr 107 wr F g s ∧ w.grownBy wr (some g) ∧ Hid (uintFrom j a s = rUint st) ∧ j ≤ 9 ∧ a < 128 ^ j ∧ rLeft s ≤ 1099511627776) (fun _ i _ => 9 - (intOf i).toNat)
  case atStart => exact ⟨0, 0, st, rfl, rfl, h, only_refl _ _, hid (uintFrom_zero st), by omega, by simp, hl⟩
  case round =>
    obtain ⟨j, a, s, rfl, rfl, h, hg, heq, hj, ha, hs⟩ := hrel
    have ha2 : a < 9223372036854775808 := Nat.lt_of_lt_of_le ha (Nat.le_trans (Nat.pow_le_pow_right (by decide) hj) (by decide : (128:Nat)^9 ≤ 9223372036854775808))
    have hF' : ∀ k, F k → k < wr.heap.size ∧ k ≠ g := fun k hk => ⟨Nat.lt_of_lt_of_le (hF k hk).1 hg.size, (hF k hk).2⟩
    cases s with
    | none =>
      go_wp2_with fail
      refine (take_bad F g none 1 _ h (by simp [rLeft]) (.inl rfl) (by decide)).mono ?_
      rintro e w1 ⟨rfl, hr1, hg1⟩
      go_wp2
      go_ret2
      refine ⟨by rw [← heq.out]; rfl, by rw [← heq.out]; exact hr1, hg.trans hg1⟩
    | some bs =>
    cases bs with
    | nil =>
      go_wp2_with fail
      refine (take_bad F g (some []) 1 _ h (by simp [rLeft]) (.inr (by simp [rLeft])) (by decide)).mono ?_
      rintro e w1 ⟨rfl, hr1, hg1⟩
      go_wp2
      go_ret2
      refine ⟨by rw [← heq.out, uintFrom_nil]; rfl, by rw [← heq.out, uintFrom_nil]; exact hr1, hg.trans hg1⟩
    | cons x bs =>
      have hx := x.toNat_lt
      go_wp2_with fail
      refine (take_ok F g (x :: bs) 1 _ h hF' (by simp) hs).mono ?_
      rintro e w1 ⟨A, rfl, hA, hr1, hg1⟩
      obtain ⟨b, o, rfl, hb, hc⟩ := hA.2.2 (by omega)
      have hcell : w1.cell? ⟨b, o, none⟩ = some (.int .u8 (x.toNat : Int)) := hc 0 _ rfl
      have hs2 := hs
      clear hc hA hF' hF hs
      by_cases hbad : (j = 9 ∧ 1 < x.toNat) ∨ (x.toNat = 0 ∧ 0 < j)
      · obtain ⟨A', k', c', b', hblk, _⟩ := hr1
        have hend : ∀ e w2, FailPost 107 w1 g e w2 → UintPost 107 F w g st (.returned (.tuple #[.int .u64 0, .int .i64 5])) w2 := by
          rintro e w2 ⟨rfl, hb2, hg2⟩
          refine ⟨by rw [← heq.out, uintFrom_bad hbad]; rfl, by rw [← heq.out, uintFrom_bad hbad]; exact ⟨_, _, _, _, hb2, Nat.le_refl _, Nat.zero_le _, rfl, rfl, rfl, rfl⟩, (hg.trans hg1).trans hg2⟩
        have hend := hid hend
        rcases hbad with ⟨rfl, h1⟩ | ⟨h0, hj0⟩
        · go_wp2_with (go_at_call 83; refine (fail_any g _ _ _ hblk).mono ?_; intro e w2 hf; have he := hf.1; subst he)
          go_ret2
          exact hend.out _ _ hf
        · by_cases hj9 : j = 9
          · subst hj9
            have hx0 : x = 0 := UInt8.toNat_inj.1 h0
            subst hx0
            go_wp2_with (go_at_call 83; refine (fail_any g _ _ _ hblk).mono ?_; intro e w2 hf; have he := hf.1; subst he)
            go_ret2
            exact hend.out _ _ hf
          · have hx0 : x = 0 := UInt8.toNat_inj.1 h0
            subst hx0
            go_wp2_with (go_at_call 83; refine (fail_any g _ _ _ hblk).mono ?_; intro e w2 hf; have he := hf.1; subst he)
            go_ret2
            exact hend.out _ _ hf
      · by_cases hbig : 128 ≤ x.toNat
        · have hj9 : j < 9 := by omega
          go_wp2
          go_roundw
          case rel => exact ⟨j + 1, a + x.toNat % 128 * 128 ^ j, some bs, by go_num, by rw [acc_or a j _ ha hj hx (by omega)], hr1, hg.trans hg1, hid (by rw [← heq.out, uintFrom_big hbig hj9]), by omega, by
            have h1 : x.toNat % 128 * 128 ^ j ≤ 127 * 128 ^ j := Nat.mul_le_mul_right _ (by omega)
            rw [Nat.pow_succ]; omega, by simp [rLeft] at hs2 ⊢; omega⟩
          case measure => simp [intOf]; omega
        · have h9 : j = 9 → x.toNat ≤ 1 := by omega
          have hret := uintFrom_ret (j := j) (a := a) (x := x) (bs := bs) (by omega) hj h9 (by omega)
          have hend : UintPost 107 F w g st (.returned (.tuple #[.int .u64 ((a + x.toNat % 128 * 128 ^ j : Nat) : Int), .int .i64 0])) w1 :=
            ⟨by rw [← heq.out, hret]; rfl, by rw [← heq.out, hret]; exact hr1, hg.trans hg1⟩
          have hend := hid hend
          clear hret
          by_cases hj9 : j = 9
          · subst hj9
            have hx1 : x.toNat = 1 := by omega
            have hx0 : x = 1 := UInt8.toNat_inj.1 hx1
            subst hx0
            go_wp2
            go_ret2
            rw [acc_or91 a ha]
            exact hend.out
          · have e := acc_or a j x.toNat ha hj hx h9
            have e' := hid e
            clear e h9
            by_cases hx0 : x.toNat = 0
            · have hj0 : j = 0 := by omega
              subst hj0
              have hx0 : x = 0 := UInt8.toNat_inj.1 hx0
              subst hx0
              go_wp2
              go_ret2
              rw [acc_or00 a ha]
              exact hend.out
            · go_wp2
              go_ret2
              rw [e'.out]
              exact hend.out

end Go.Proofs.Ytbcmpfdhpefdbaa

namespace Go.Proofs.Ytbcmpfdhpefdbaa
open Go.RowKit

theorem rUint_left {st : RS} : rLeft (rUint st).2 ≤ rLeft st := by
  unfold rUint
  split
  · exact Nat.le_refl _
  · split
    · exact Nat.zero_le _
    · rename_i h; exact Nat.le_of_lt (decU_len h)

/-- what 'Bytes' answers -/
def BytesPost (T : TypeId) (F : Nat → Prop) (w : World) (g : Nat) (st : RS) (e : Ending) (w' : World) : Prop :=
  ∃ A n c, e = .returned (.tuple #[.slice A n c, .int .i64 (rErr (rBytes st).2)]) ∧ n ≤ c ∧ c ≤ maxLen ∧ RdB w' F A n (rBytes st).1 ∧ Rdr T w' F g (rBytes st).2 ∧ w.grownBy w' (some g)

theorem rErr_ne {st : RS} (h : st ≠ none) : rErr st = 0 := by cases st; exact absurd rfl h; rfl

set_option maxRecDepth 100000 in
set_option maxHeartbeats 400000 in
theorem bytes_any (F : Nat → Prop) (g : Nat) (st : RS) (w : World) (h : Rdr 107 w F g st) (hl : rLeft st ≤ 1099511627776) (hF : ∀ k, F k → k < w.heap.size ∧ k ≠ g) :
    Calls Try.prog 61 #[.pointer (some ⟨g, 0, none⟩)] w (BytesPost 107 F w g st) := by
  have hd : Hid ((rUint st).2 = none → rBytes st = ([], none)) := fun e => by unfold rBytes; split <;> simp_all
  have hd2 : Hid (∀ bs, (rUint st).2 = some bs → rBytes st = rTake (rUint st).1 (some bs)) := fun bs e => by unfold rBytes; split <;> simp_all
  have hbd := rUint_bd st
  have hlf := rUint_left (st := st)
  go_enter Try.func61, Try.ntmps61
  go_wp2_with fail
  refine (uint_any F g st _ h hl hF).mono ?_
  rintro e w1 ⟨rfl, hr1, hg1⟩
  generalize (rUint st).1 = n at *
  generalize (rUint st).2 = s at *
  cases s with
  | none =>
    have hd' := hid (hd.out rfl)
    clear hd hd2
    simp only [rErr]
    go_wp2
    go_ret2
    exact ⟨none, 0, 0, by rw [hd'.out]; rfl, Nat.le_refl _, Nat.zero_le _, by rw [hd'.out]; exact ⟨rfl, Rd.none_⟩, by rw [hd'.out]; exact hr1, hg1⟩
  | some bs =>
    have hd' := hid (hd2.out bs rfl)
    clear hd hd2
    simp only [rErr]
    have hF1 : ∀ k, F k → k < w1.heap.size ∧ k ≠ g := fun k hk => ⟨Nat.lt_of_lt_of_le (hF k hk).1 hg1.size, (hF k hk).2⟩
    have hbl : bs.length ≤ 1099511627776 := Nat.le_trans hlf hl
    by_cases hn : n ≤ bs.length
    · go_wp2_with (go_at_call 82; refine (take_ok F g bs n _ hr1 hF1 hn hbl).mono ?_; rintro e w2 ⟨A, rfl, hA, hr2, hg2⟩)
      go_ret2
      have e1 : rBytes st = (bs.take n, some (bs.drop n)) := by rw [hd'.out, rTake, if_pos hn]
      exact ⟨A, n, n, by rw [e1]; rfl, Nat.le_refl _, by simp only [maxLen]; omega, by rw [e1]; exact hA, by rw [e1]; exact hr2, hg1.trans hg2⟩
    · go_wp2_with (go_at_call 82; refine (take_bad F g (some bs) n _ hr1 hbl (.inr (by simp [rLeft]; omega)) hbd).mono ?_; rintro e w2 ⟨rfl, hr2, hg2⟩)
      go_ret2
      have e1 : rBytes st = ([], none) := by rw [hd'.out, rTake, if_neg hn]
      exact ⟨none, 0, 0, by rw [e1]; rfl, Nat.le_refl _, Nat.zero_le _, by rw [e1]; exact ⟨rfl, Rd.none_⟩, by rw [e1]; exact hr2, hg1.trans hg2⟩

set_option maxRecDepth 100000 in
set_option maxHeartbeats 400000 in
theorem done_any (F : Nat → Prop) (g : Nat) (st : RS) (w : World) (h : Rdr 107 w F g st) (hl : rLeft st ≤ 1099511627776) :
    Calls Try.prog 62 #[.pointer (some ⟨g, 0, none⟩)] w fun e w' => e = .returned (.int .i64 (rDone st)) ∧ w = w' := by
  obtain ⟨A, k, c, b, h, hkc, hcm, hm⟩ := h
  have h0 := h.cell 0
  have h1 := h.cell 1
  cases st with
  | none =>
    obtain ⟨rfl, rfl, rfl, rfl⟩ := hm
    go_enter Try.func62, Try.ntmps62
    go_wp2
    go_ret
    exact ⟨rfl, rfl⟩
  | some bs =>
    obtain ⟨rfl, hr⟩ := hm
    have hk := hr.1
    cases bs with
    | nil =>
      obtain rfl : k = 0 := by simpa using hk
      clear hk
      go_enter Try.func62, Try.ntmps62
      go_wp2
      go_ret
      exact ⟨rfl, rfl⟩
    | cons x bs =>
      have hk0 : 0 < k := by rw [hk]; simp
      clear hk
      go_enter Try.func62, Try.ntmps62
      go_wp2
      go_ret
      exact ⟨rfl, rfl⟩

/-- what 'Count' answers -/
def CountPost (T : TypeId) (F : Nat → Prop) (w : World) (g : Nat) (m : Nat) (st : RS) (e : Ending) (w' : World) : Prop :=
  e = .returned (.tuple #[.int .i64 ((rCount m st).1 : Nat), .int .i64 (rErr (rCount m st).2)]) ∧ Rdr T w' F g (rCount m st).2 ∧ w.grownBy w' (some g)

set_option maxRecDepth 100000 in
set_option maxHeartbeats 400000 in
theorem count_any (F : Nat → Prop) (g : Nat) (m : Nat) (st : RS) (w : World) (h : Rdr 107 w F g st) (hl : rLeft st ≤ 1099511627776) (hF : ∀ k, F k → k < w.heap.size ∧ k ≠ g) (hm : m ≤ 1099511627776) :
    Calls Try.prog 86 #[.pointer (some ⟨g, 0, none⟩), .int .i64 (m : Int)] w (CountPost 107 F w g m st) := by
  have hd : Hid ((rUint st).2 = none → rCount m st = (0, none)) := fun e => by unfold rCount; split <;> simp_all
  have hd2 : Hid (∀ bs, (rUint st).2 = some bs → rCount m st = if (rUint st).1 ≤ m then ((rUint st).1, some bs) else (0, none)) := fun bs e => by unfold rCount; split <;> simp_all
  have hz : Hid ((rUint st).2 = none → (rUint st).1 = 0) := fun e => by
    unfold rUint at e ⊢
    split
    · rfl
    · split <;> simp_all
  have hbd := rUint_bd st
  go_enter Try.func86, Try.ntmps86
  go_wp2_with fail
  refine (uint_any F g st _ h hl hF).mono ?_
  rintro e w1 ⟨rfl, hr1, hg1⟩
  generalize (rUint st).1 = n at *
  generalize (rUint st).2 = s at *
  cases s with
  | none =>
    have hd' := hid (hd.out rfl)
    obtain rfl := hz.out rfl
    clear hd hd2 hz
    simp only [rErr]
    go_wp2
    go_ret2
    exact ⟨by rw [hd'.out]; rfl, by rw [hd'.out]; exact hr1, hg1⟩
  | some bs =>
    have hd' := hid (hd2.out bs rfl)
    clear hd hd2 hz
    simp only [rErr]
    by_cases hn : n ≤ m
    · go_wp2
      go_ret2
      have e1 : rCount m st = (n, some bs) := by rw [hd'.out, if_pos hn]
      exact ⟨by rw [e1]; rfl, by rw [e1]; exact hr1, hg1⟩
    · obtain ⟨A', k', c', b', hblk, _⟩ := hr1
      go_wp2_with (go_at_call 83; refine (fail_any g _ _ _ hblk).mono ?_; rintro e w2 ⟨rfl, hb2, hg2⟩)
      go_ret2
      have e1 : rCount m st = (0, none) := by rw [hd'.out, if_neg hn]
      exact ⟨by rw [e1]; rfl, by rw [e1]; exact ⟨_, _, _, _, hb2, Nat.le_refl _, Nat.zero_le _, rfl, rfl, rfl, rfl⟩, hg1.trans hg2⟩

end Go.Proofs.Ytbcmpfdhpefdbaa

namespace Go.Proofs.Ytbcmpfdhpefdbaa
open Go.RowKit

def B8.cells (x : B8) : Array Value := #[B x.b0, B x.b1, B x.b2, B x.b3, B x.b4, B x.b5, B x.b6, B x.b7]
theorem B8.cells_list (x : B8) : x.cells.toList = x.list.map B := rfl

theorem ofInt_i64 (a : Nat) (ha : a < 9223372036854775808) : (BitVec.ofInt 64 (a : Int)).toNat = a := by
  rw [BitVec.ofInt_natCast, BitVec.toNat_ofNat]; exact Nat.mod_eq_of_lt (by omega)
theorem i64_xor_nat (a b : Nat) (ha : a < 9223372036854775808) (hb : b < 9223372036854775808) : bits .xor .i64 (a : Int) (b : Int) = ((a ^^^ b : Nat) : Int) := by
  have hx : a ^^^ b < 2 ^ 63 := Nat.xor_lt_two_pow (by omega) (by omega)
  show IntKind.i64.wrap ((BitVec.ofInt 64 (a : Int) ^^^ BitVec.ofInt 64 (b : Int)).toNat : Int) = _
  rw [BitVec.toNat_xor, ofInt_i64 a ha, ofInt_i64 b hb, IntKind.wrap_i64]
  omega
theorem i64_xor_m1 (a : Nat) (ha : a < 9223372036854775808) : bits .xor .i64 ((a : Nat) : Int) (-1) = -((a : Nat) : Int) - 1 := by
  show IntKind.i64.wrap ((BitVec.ofInt 64 (a : Int) ^^^ BitVec.ofInt 64 (-1)).toNat : Int) = _
  have e : BitVec.ofInt 64 (-1) = BitVec.allOnes 64 := by decide
  rw [e, BitVec.xor_allOnes, BitVec.toNat_not, ofInt_i64 a ha, IntKind.wrap_i64]
  omega

theorem Rdr.alloc {T : TypeId} {w : World} {F : Nat → Prop} {g : Nat} {st : RS} (h : Rdr T w F g st) (hF : ∀ k, F k → k < w.heap.size) (o : Obj) : Rdr T (w.alloc o) F g st := by
  obtain ⟨A, n, c, b, hb, h1, h2, h3⟩ := h
  refine ⟨A, n, c, b, hb.alloc o, h1, h2, ?_⟩
  cases st with
  | none => exact h3
  | some bs => exact ⟨h3.1, h3.2.keep fun k hk => Below.heap_alloc w o k (hF k hk)⟩

/-- what 'Int' answers -/
def IntPost (T : TypeId) (F : Nat → Prop) (w : World) (g : Nat) (st : RS) (e : Ending) (w' : World) : Prop :=
  e = .returned (.tuple #[.int .i64 (rInt st).1, .int .i64 (rErr (rInt st).2)]) ∧ Rdr T w' F g (rInt st).2 ∧ w.grownBy w' (some g)

set_option maxRecDepth 100000 in
set_option maxHeartbeats 400000 in
theorem int_any (F : Nat → Prop) (g : Nat) (st : RS) (w : World) (h : Rdr 107 w F g st) (hl : rLeft st ≤ 1099511627776) (hF : ∀ k, F k → k < w.heap.size ∧ k ≠ g) :
    Calls Try.prog 88 #[.pointer (some ⟨g, 0, none⟩)] w (IntPost 107 F w g st) := by
  have hd : Hid (rInt st = (zag (rUint st).1, (rUint st).2)) := by
    unfold rInt
    split
    · rename_i e
      have : rUint st = (0, none) := by
        unfold rUint at e ⊢
        split
        · rfl
        · split <;> simp_all
      rw [this]; rfl
    · rename_i e; exact hid (by simp [e])
  have hbd := rUint_bd st
  go_enter Try.func88, Try.ntmps88
  go_wp2_with fail
  refine (uint_any F g st _ h hl hF).mono ?_
  rintro e w1 ⟨rfl, hr1, hg1⟩
  generalize (rUint st).1 = n at *
  generalize (rUint st).2 = s at *
  by_cases h2 : n % 2 = 0
  · have ha : bits .and .u64 (n : Int) 1 = 0 := by
      rw [show (1 : Int) = ((1 : Nat) : Int) from rfl, u64_and_nat _ _ hbd (by decide), Nat.and_one_is_mod, h2]; rfl
    have hx : bits .xor .i64 ((n : Int) / 2) 0 = zag n := by
      have : bits .xor .i64 (((n / 2 : Nat) : Int)) ((0 : Nat) : Int) = (((n / 2) ^^^ 0 : Nat) : Int) := i64_xor_nat _ _ (by omega) (by omega)
      rw [Nat.xor_zero] at this
      unfold zag; rw [if_pos h2, ← this]; rfl
    go_wp2
    go_ret2
    exact ⟨by rw [hd.out]; rfl, by rw [hd.out]; exact hr1, hg1⟩
  · have ha : bits .and .u64 (n : Int) 1 = 1 := by
      rw [show (1 : Int) = ((1 : Nat) : Int) from rfl, u64_and_nat _ _ hbd (by decide), Nat.and_one_is_mod, show n % 2 = 1 by omega]
    have hx : bits .xor .i64 ((n : Int) / 2) (-1) = zag n := by
      unfold zag; rw [if_neg h2]; exact i64_xor_m1 (n / 2) (by omega)
    go_wp2
    go_ret2
    exact ⟨by rw [hd.out]; rfl, by rw [hd.out]; exact hr1, hg1⟩

/-- what 'Block' answers -/
def BlockPost (T : TypeId) (F : Nat → Prop) (w : World) (g : Nat) (st : RS) (e : Ending) (w' : World) : Prop :=
  e = .returned (.tuple #[.agg (rBlock st).1.cells, .int .i64 (rErr (rBlock st).2)]) ∧ Rdr T w' F g (rBlock st).2 ∧ w.grownBy w' (some g)

theorem list8 {l : List UInt8} (h : l.length = 8) : l = (B8.of l).list := by
  match l, h with
  | [a0, a1, a2, a3, a4, a5, a6, a7], _ => rfl
theorem B8.of_take (l : List UInt8) (h : 8 ≤ l.length) : B8.of (l.take 8) = B8.of l := by
  match l, h with
  | a0 :: a1 :: a2 :: a3 :: a4 :: a5 :: a6 :: a7 :: r, _ => rfl

theorem run_arrayAt (b o : Nat) : ∀ w : World, (Instr.arrayAt 75 (.slice (some ⟨b, o, none⟩) 8 8)).run Try.prog w = .ok (.pointer (some ⟨b, o, none⟩)) w := fun w => by
  have hrow : Try.prog.underlying 75 = some (.array 8 5) := by kernel_rfl
  simp [Instr.arrayAt, run_underlying hrow]

set_option maxRecDepth 100000 in
set_option maxHeartbeats 400000 in
theorem block_any (F : Nat → Prop) (g : Nat) (st : RS) (w : World) (h : Rdr 107 w F g st) (hl : rLeft st ≤ 1099511627776) (hF : ∀ k, F k → k < w.heap.size ∧ k ≠ g) :
    Calls Try.prog 87 #[.pointer (some ⟨g, 0, none⟩)] w (BlockPost 107 F w g st) := by
  have hgl : g < w.heap.size := by obtain ⟨_, _, _, _, hb, _⟩ := h; exact hb.lt
  have hbad : ∀ w1, (w.alloc (.cells B8.zero.cells 75)).grownBy w1 (some g) → Blk w1 w.heap.size 75 B8.zero.cells ∧ w.grownBy w1 (some g) := fun w1 hg1 =>
    ⟨(Blk.new w _ _).grown hg1 (by intro e; injection e; omega), (World.grownBy_alloc w _ _).trans hg1⟩
  have hbad := hid hbad
  have hrow : Try.prog.underlying 75 = some (.array 8 5) := by kernel_rfl
  have hinf : (Try.prog.info? 75).map (·.size) = some 8 := by kernel_rfl
  have hrow := hid hrow
  have hinf := hid hinf
  unfold B8.zero B8.cells B at hbad
  go_enter Try.func87, Try.ntmps87
  go_wp2_with fail
  by_cases hn : 8 ≤ rLeft st
  · cases st with
    | none => simp [rLeft] at hn
    | some bs =>
    refine (take_ok F g bs 8 _ (h.alloc (fun k hk => (hF k hk).1) _) (fun k hk => ⟨by have := (hF k hk).1; simp; omega, (hF k hk).2⟩) hn hl).mono ?_
    rintro e w1 ⟨A, rfl, hA, hr1, hg1⟩
    obtain ⟨hB, hg⟩ := hbad.out w1 hg1
    obtain ⟨b, o, rfl, hb, hc⟩ := hA.2.2 (by omega)
    rw [list8 (l := List.take 8 bs) (by simp only [rLeft] at hn; simp; omega), B8.of_take bs hn] at hc
    have e1 : rBlock (some bs) = (B8.of bs, some (bs.drop 8)) := by simp only [rLeft] at hn; simp [rBlock, hn]
    have e1 := hid e1
    generalize B8.of bs = x at *
    have hc' := hid hc
    clear hc
    have hc := hc'
    clear hc'
    have harr := run_arrayAt b o
    go_wp2_with (first | (refine wpList_ldAt rfl 75 _ rfl b o (x.list.map B) _ rfl hc.out hrow.out rfl hinf.out ?_) | (refine wpList_stBlk rfl 75 _ _ rfl w.heap.size 75 _ x.cells hB rfl rfl hinf.out rfl rfl ?_; intro w2 hB2 hg2))
    refine bodyPost_ret (results_ct rfl rfl hB2 hrow.out rfl hinf.out) rfl ?_
    refine ⟨by rw [e1.out]; rfl, ?_, ?_⟩
    · rw [e1.out]
      obtain ⟨A, n, c, b, hb, h1, h2, h3, h4⟩ := hr1
      exact ⟨A, n, c, b, hb.grown hg2 (by intro e; injection e; omega), h1, h2, h3, h4.keep (fun k hk => hg2.block k (Nat.lt_of_lt_of_le (hF k hk).1 hg.size) (by intro e; injection e; have := (hF k hk).1; omega))⟩
    · exact grown_trans_new hg hg2 (Nat.le_refl _)
  · refine (take_bad F g st 8 _ (h.alloc (fun k hk => (hF k hk).1) _) hl (.inr (by omega)) (by decide)).mono ?_
    rintro e w1 ⟨rfl, hr1, hg1⟩
    obtain ⟨hB, hg⟩ := hbad.out w1 hg1
    have e1 : rBlock st = (B8.zero, none) := by unfold rBlock; cases st with | none => rfl | some bs => simp only [rLeft] at hn; simp [hn]
    have e1 := hid e1
    go_wp2_with (refine wpList_stBlk rfl 75 _ _ rfl w.heap.size 75 _ #[Value.int .u8 0, Value.int .u8 0, Value.int .u8 0, Value.int .u8 0, Value.int .u8 0, Value.int .u8 0, Value.int .u8 0, Value.int .u8 0] hB rfl rfl hinf.out rfl rfl ?_; intro w2 hB2 hg2)
    refine bodyPost_ret (results_ct rfl rfl hB2 hrow.out rfl hinf.out) rfl ?_
    refine ⟨by rw [e1.out]; rfl, ?_, ?_⟩
    · rw [e1.out]
      obtain ⟨A, n, c, b, hb, h1, h2, h3⟩ := hr1
      exact ⟨A, n, c, b, hb.grown hg2 (by intro e; injection e; omega), h1, h2, h3⟩
    · exact grown_trans_new hg hg2 (Nat.le_refl _)

set_option maxRecDepth 100000 in
set_option maxHeartbeats 400000 in
theorem appendBytes_any (F : Nat → Prop) (A : Option Addr) (k c : Nat) (bs : List UInt8) (G : Nat → Prop) (A' : Option Addr) (k' c' : Nat) (ys : List UInt8) (w : World) (h : RdB w F A k bs) (h' : RdB w G A' k' ys)
    (hl : bs.length + ys.length ≤ 100000000) (hF : ∀ k, F k → k < w.heap.size) (hG : ∀ k, G k → k < w.heap.size) :
    Calls Try.prog 53 #[.slice A k c, .slice A' k' c'] w (RetB w.heap.size w (bs ++ enc ys.length ++ ys)) := by
  have hk := h'.1
  have hkl : k' ≤ 100000000 := by omega
  have hen := enc_len10 (n := ys.length) (by omega)
  clear hk
  go_enter Try.func53, Try.ntmps53
  go_wp2_with fail
  refine (appendUint_any F _ _ _ bs k' _ h (by omega) hF (by omega)).mono ?_
  rintro e w1 ⟨v1, rfl, hown, hbel⟩
  go_wp2_with (at_builtin; refine mk_stop ?_)
  refine wpList_apB rfl _ _ rfl w.heap.size _ _ (by rfl) hown G A' k' c' ys rfl (h'.keep (Kp.of_below hbel hG)) (by have := h'.1; rw [← this] at hen; simp; omega) hbel.size ?_
  intro v2 w2 hown2 hg2 hat2
  go_wp2
  go_ret
  refine ⟨v2, rfl, by rw [← h'.1]; exact hown2, hbel.grown hg2 hbel.size (fun k hk => (hown.lt k hk).1)⟩

set_option maxRecDepth 100000 in
set_option maxHeartbeats 400000 in
theorem appendBlock_any (F : Nat → Prop) (A : Option Addr) (k c : Nat) (bs : List UInt8) (x : B8) (w : World) (h : RdB w F A k bs) 
    (hl : bs.length  ≤ 100000000) (hF : ∀ k, F k → k < w.heap.size)  :
    Calls Try.prog 78 #[.slice A k c, .agg x.cells] w (RetB w.heap.size w (bs ++ x.list)) := by
  unfold B8.cells B
  have hx : RdB (w.alloc (.cells x.cells 75)) (fun k => k = w.heap.size) (some ⟨w.heap.size, 0, none⟩) 8 x.list :=
    ⟨rfl, rfl, fun _ => ⟨_, _, rfl, rfl, fun j u hu => by
      rw [cell_of_row _ _ _ _ _ _ (heap_alloc_new w _), Nat.zero_add, ← Array.getElem?_toList, B8.cells_list]; exact hu⟩⟩
  have h1 : RdB (w.alloc (.cells x.cells 75)) F A k bs := h.keep fun k hk => Below.heap_alloc w _ _ (hF k hk)
  have hF1 : ∀ k, F k → k < (w.alloc (.cells x.cells 75)).heap.size := fun k hk => by have := hF k hk; simp; omega
  unfold B8.cells B at hx h1 hF1
  go_enter Try.func78, Try.ntmps78
  go_wp2_with fail
  go_region_held3 (fun _ => True) (trivial) (first | (go_at_call 58; refine (clone_any F _ _ _ bs _ h1.drew (by omega) hF1).mono ?_; rintro e w1 ⟨v1, rfl, hown, hbel⟩) | (refine step_apB (by rfl) _ _ (by rfl) w.heap.size _ _ (by rfl) (hown.lower (by simp)) _ _ _ _ _ (by rfl) (hx.drew.keep (Kp.of_below hbel (fun k hk => by simp [hk]))) (by simp [B8.list]; omega) (by have := hbel.size; simp at this; omega) ?_; intro v2 w2 hown2 hg2 hat2))
  go_wp2
  go_ret
  have hb1 : Below w.heap.size w w1 := ((Below.refl _ _).alloc (Nat.le_refl _) _).drew.trans (hbel.mono (by simp))
  exact ⟨v2, rfl, hown2, hb1.grown hg2 hb1.size (fun k hk => by have := (hown.lt k hk).1; simp at this; omega)⟩

theorem xor_pos {n : Int} (h0 : 0 ≤ n) (h1 : n ≤ 9223372036854775807) : bits .xor .u64 (n * 2) (n / 9223372036854775808) = (zig n : Nat) := by
  obtain ⟨m, rfl⟩ := Int.eq_ofNat_of_zero_le h0
  have := u64_xor_nat (m * 2) 0 (by omega) (by decide)
  rw [Nat.xor_zero] at this
  rw [show ((m : Int) / 9223372036854775808) = ((0 : Nat) : Int) by omega, show (m : Int) * 2 = ((m * 2 : Nat) : Int) by omega, this]
  unfold zig; rw [if_pos (by omega)]; omega
theorem xor_neg {n : Int} (h0 : -9223372036854775808 ≤ n) (h1 : n < 0) : bits .xor .u64 (IntKind.u64.wrap (IntKind.u64.wrap n * 2)) (IntKind.u64.wrap (n / 9223372036854775808)) = (zig n : Nat) := by
  have e1 : IntKind.u64.wrap (n / 9223372036854775808) = ((18446744073709551615 : Nat) : Int) := by rw [IntKind.wrap_u64]; omega
  have e2 : IntKind.u64.wrap (IntKind.u64.wrap n * 2) = ((18446744073709551615 - (2 * (-n - 1).toNat + 1) : Nat) : Int) := by rw [IntKind.wrap_u64, IntKind.wrap_u64]; omega
  rw [e1, e2, u64_xor_nat _ _ (by omega) (by decide)]
  have hz : zig n = 2 * (-n - 1).toNat + 1 := by unfold zig; rw [if_neg (by omega)]
  rw [hz]
  generalize hm : 2 * (-n - 1).toNat + 1 = m
  have hm2 : m < 18446744073709551616 := by omega
  clear hz e1 e2 hm h0 h1
  have key : (BitVec.ofNat 64 (18446744073709551615 - m) ^^^ BitVec.allOnes 64).toNat = m := by
    rw [BitVec.xor_allOnes, BitVec.toNat_not, BitVec.toNat_ofNat, Nat.mod_eq_of_lt (by omega)]
    omega
  rw [BitVec.toNat_xor, BitVec.toNat_ofNat, Nat.mod_eq_of_lt (by omega)] at key
  have e : (BitVec.allOnes 64).toNat = 18446744073709551615 := by decide
  rw [e] at key
  rw [key]

set_option maxRecDepth 100000 in
set_option maxHeartbeats 400000 in
theorem appendInt_any (F : Nat → Prop) (A : Option Addr) (k c : Nat) (bs : List UInt8) (n : Int) (w : World) (h : RdB w F A k bs) (hl : bs.length ≤ 100000000) (hF : ∀ k, F k → k < w.heap.size)
    (h0 : -9223372036854775808 ≤ n) (h1 : n ≤ 9223372036854775807) :
    Calls Try.prog 79 #[.slice A k c, .int .i64 n] w (RetB w.heap.size w (bs ++ enc (zig n))) := by
  have hz := zig_lt h0 h1
  by_cases hn : 0 ≤ n
  · have e := hid (xor_pos hn h1)
    go_enter Try.func79, Try.ntmps79
    go_wp2_with fail
    rw [e.out]
    refine (appendUint_any F _ _ _ bs _ _ h (by omega) hF hz).mono ?_
    rintro e w1 ⟨v1, rfl, hown, hbel⟩
    go_wp2
    go_ret
    exact ⟨v1, rfl, hown, hbel⟩
  · have hn : n < 0 := by omega
    have e := hid (xor_neg h0 hn)
    go_enter Try.func79, Try.ntmps79
    go_wp2_with fail
    rw [e.out]
    refine (appendUint_any F _ _ _ bs _ _ h (by omega) hF hz).mono ?_
    rintro e w1 ⟨v1, rfl, hown, hbel⟩
    go_wp2
    go_ret
    exact ⟨v1, rfl, hown, hbel⟩

end Go.Proofs.Ytbcmpfdhpefdbaa
