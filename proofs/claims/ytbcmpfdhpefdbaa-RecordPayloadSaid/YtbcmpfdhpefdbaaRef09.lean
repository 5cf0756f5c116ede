/- The contracts of the reference's encodings (tegularef09). -/
import Derived.Test.YtbcmpfdhpefdbaaCodec3
set_option linter.unusedVariables false
set_option linter.unusedSimpArgs false
namespace Go.Proofs.Ytbcmpfdhpefdbaa
open Go.RowKit

theorem rem_128 (k : Nat) (h : k < 18446744073709551616) : (((k : Int) % 128 + 128 : Int)) = ((k % 128 + 128 : Nat) : Int) := by omega

set_option maxRecDepth 100000 in
set_option maxHeartbeats 400000 in
theorem appendUint9_any (F : Nat → Prop) (A : Option Addr) (k c : Nat) (bs : List UInt8) (n : Nat) (w : World) (h : RdB w F A k bs) (hl : bs.length ≤ 1000000000) (hF : ∀ k, F k → k < w.heap.size) (hn : n < 18446744073709551616) :
    Calls Try.prog 72 #[.slice A k c, .int .u64 (n : Int)] w (RetB w.heap.size w (bs ++ enc n)) := by
  have hen := enc_len10 hn
  have h1 : RdB (w.alloc (.cells #[] 5)) F A k bs := h.keep fun k hk => Below.heap_alloc w _ _ (hF k hk)
  go_enter Try.func72, Try.ntmps72
  go_wp2_with (at_builtin; refine mk_stop ?_)
  refine wpList_apB rfl _ _ rfl w.heap.size _ [] (by rfl) (OwnB.made (Nat.le_refl _)) F A k c bs rfl h1 (by simp; omega) (by simp) ?_
  intro v1 w1 hown hg hat
  have hbel : Below w.heap.size w w1 := ((Below.refl _ _).alloc (Nat.le_refl _) _).grown hg (by simp) (by simp [Value.ownBlock])
  clear hg hat h1
  go_wp2_with fail
  go_loopw [5, 1] (fun out m wr => ∃ (k : Nat) (d : List UInt8), m = .int .u64 (k : Int) ∧ OwnB w.heap.size wr out (bs ++ d) ∧ Below w.heap.size w wr ∧ Hid (d ++ enc k = enc n) ∧ k ≤ n) (fun _ m _ => (intOf m).toNat)
  case atStart => exact ⟨n, [], rfl, by simpa using hown, hbel, rfl, Nat.le_refl _⟩
  case round =>
    clear hown hbel
    obtain ⟨k, d, rfl, hown, hbel, hd, hk⟩ := hrel
    have hdl : d.length ≤ 10 := by have := congrArg List.length hd.out; simp at this; omega
    by_cases hlt : k < 128
    · go_wp2_with (at_builtin; refine mk_stop ?_)
      refine wpList_apB1 rfl _ _ rfl w.heap.size _ _ (by rfl) hown _ (by rfl) k (by omega) rfl (by simp; omega) hbel.size ?_
      intro v2 w2 hown2 hg2 hat2
      go_wp2
      go_ret
      refine ⟨v2, rfl, ?_, hbel.grown hg2 hbel.size (fun k hk => (hown.lt k hk).1)⟩
      rw [← hd.out, enc_small hlt]
      simpa using hown2
    · go_wp2_with (at_builtin; refine mk_stop ?_)
      refine wpList_apB1 rfl _ _ rfl w.heap.size _ _ (by rfl) hown _ (by rfl) (k % 128 + 128) (by omega) (rem_128 k (by omega)) (by simp; omega) hbel.size ?_
      intro v2 w2 hown2 hg2 hat2
      go_wp2
      go_roundw
      case rel => exact ⟨k / 128, d ++ [UInt8.ofNat (k % 128 + 128)], by go_num, by simpa using hown2, hbel.grown hg2 hbel.size (fun k hk => (hown.lt k hk).1), hid (by rw [← hd.out, enc_big hlt]; simp), by omega⟩
      case measure => simp [intOf]; omega

set_option maxRecDepth 100000 in
set_option maxHeartbeats 400000 in
theorem appendBytes9_any (F : Nat → Prop) (A : Option Addr) (k c : Nat) (bs : List UInt8) (G : Nat → Prop) (A' : Option Addr) (k' c' : Nat) (ys : List UInt8) (w : World) (h : RdB w F A k bs) (h' : RdB w G A' k' ys)
    (hl : bs.length + ys.length ≤ 100000000) (hF : ∀ k, F k → k < w.heap.size) (hG : ∀ k, G k → k < w.heap.size) :
    Calls Try.prog 73 #[.slice A k c, .slice A' k' c'] w (RetB w.heap.size w (bs ++ enc ys.length ++ ys)) := by
  have hk := h'.1
  have hkl : k' ≤ 100000000 := by omega
  have hen := enc_len10 (n := ys.length) (by omega)
  clear hk
  go_enter Try.func73, Try.ntmps73
  go_wp2_with fail
  refine (appendUint9_any F _ _ _ bs k' _ h (by omega) hF (by omega)).mono ?_
  rintro e w1 ⟨v1, rfl, hown, hbel⟩
  go_wp2_with (at_builtin; refine mk_stop ?_)
  refine wpList_apB rfl _ _ rfl w.heap.size _ _ (by rfl) hown G A' k' c' ys rfl (h'.keep (Kp.of_below hbel hG)) (by have := h'.1; rw [← this] at hen; simp; omega) hbel.size ?_
  intro v2 w2 hown2 hg2 hat2
  go_wp2
  go_ret
  refine ⟨v2, rfl, by rw [← h'.1]; exact hown2, hbel.grown hg2 hbel.size (fun k hk => (hown.lt k hk).1)⟩

set_option maxRecDepth 100000 in
set_option maxHeartbeats 400000 in
theorem appendInt9_any (F : Nat → Prop) (A : Option Addr) (k c : Nat) (bs : List UInt8) (n : Int) (w : World) (h : RdB w F A k bs) (hl : bs.length ≤ 100000000) (hF : ∀ k, F k → k < w.heap.size)
    (h0 : -9223372036854775808 ≤ n) (h1 : n ≤ 9223372036854775807) :
    Calls Try.prog 75 #[.slice A k c, .int .i64 n] w (RetB w.heap.size w (bs ++ enc (zig n))) := by
  have hz := zig_lt h0 h1
  by_cases hn : 0 ≤ n
  · have e : 2 * n = (zig n : Nat) := by unfold zig; rw [if_pos hn]; omega
    go_enter Try.func75, Try.ntmps75
    go_wp2_with fail
    refine (appendUint9_any F _ _ _ bs _ _ h (by omega) hF hz).mono ?_
    rintro e w1 ⟨v1, rfl, hown, hbel⟩
    go_wp2
    go_ret
    exact ⟨v1, rfl, hown, hbel⟩
  · have hn : n < 0 := by omega
    have e : 2 * (-(n+1)) + 1 = (zig n : Nat) := by unfold zig; rw [if_neg (by omega)]; omega
    go_enter Try.func75, Try.ntmps75
    go_wp2_with fail
    refine (appendUint9_any F _ _ _ bs _ _ h (by omega) hF hz).mono ?_
    rintro e w1 ⟨v1, rfl, hown, hbel⟩
    go_wp2
    go_ret
    exact ⟨v1, rfl, hown, hbel⟩

set_option maxRecDepth 100000 in
set_option maxHeartbeats 400000 in
theorem appendBlock9_any (F : Nat → Prop) (A : Option Addr) (k c : Nat) (bs : List UInt8) (x : B8) (w : World) (h : RdB w F A k bs)
    (hl : bs.length  ≤ 100000000) (hF : ∀ k, F k → k < w.heap.size)  :
    Calls Try.prog 74 #[.slice A k c, .agg x.cells] w (RetB w.heap.size w (bs ++ x.list)) := by
  have hx : RdB (w.alloc (.cells x.cells 75)) (fun k => k = w.heap.size) (some ⟨w.heap.size, 0, none⟩) 8 x.list :=
    ⟨rfl, rfl, fun _ => ⟨_, _, rfl, rfl, fun j u hu => by
      rw [cell_of_row _ _ _ _ _ _ (heap_alloc_new w _), Nat.zero_add, ← Array.getElem?_toList, B8.cells_list]; exact hu⟩⟩
  have h1 : RdB (w.alloc (.cells x.cells 75)) F A k bs := h.keep fun k hk => Below.heap_alloc w _ _ (hF k hk)
  have hF1 : ∀ k, F k → k < (w.alloc (.cells x.cells 75)).heap.size := fun k hk => by have := hF k hk; simp; omega
  have hz1 : w.heap.size < (w.alloc (.cells x.cells 75)).heap.size := by simp
  have hb1 : Below w.heap.size w (w.alloc (.cells x.cells 75)) := (Below.refl _ _).alloc (Nat.le_refl _) _
  have hkp : ∀ w1, ((w.alloc (.cells x.cells 75)).alloc (.cells #[] 5)).drew.grownBy w1 (Value.slice (some ⟨w.heap.size + 1, 0, none⟩) 0 0).ownBlock → Below (w.heap.size + 1) (w.alloc (.cells x.cells 75)) w1 := fun w1 hg =>
    (((Below.refl _ _).alloc (by simp) _).drew).grown hg (by simp) (by simp [Value.ownBlock])
  have hkp := hid hkp
  have hmade : OwnB w.heap.size ((w.alloc (.cells x.cells 75)).alloc (.cells #[] 5)).drew (.slice (some ⟨w.heap.size + 1, 0, none⟩) 0 0) [] := by
    have := OwnB.made_drew (base := w.heap.size) (w := w.alloc (.cells x.cells 75)) (by simp)
    rwa [show (w.alloc (.cells x.cells 75)).heap.size = w.heap.size + 1 by simp] at this
  unfold B8.cells B at hx h1 hF1 hz1 hb1 hkp hmade
  unfold B8.cells B
  go_enter Try.func74, Try.ntmps74
  go_wp2_with fail
  go_region_held3 (fun _ => True) (trivial) (first | (refine step_apB (by rfl) _ _ (by rfl) w.heap.size (.slice (some ⟨w.heap.size + 1, 0, none⟩) 0 0) [] (by rfl) hmade F A k c bs (by rfl) ((h1.keep (fun k hk => Below.heap_alloc _ _ _ (hF1 k hk))).drew) (by simp; omega) (by simp; omega) ?_; intro v1 w1 hown hg hat) | (refine step_apB (by rfl) _ _ (by rfl) w.heap.size v1 _ (by rfl) hown (fun k => k = w.heap.size) (some ⟨w.heap.size, 0, none⟩) 8 8 x.list (by rfl) (hx.keep (fun k hk => (hkp.out _ hg).block k (by rw [hk]; omega))) (by simp [B8.list]; omega) (by have := (hkp.out _ hg).size; simp at this; omega) ?_; intro v2 w2 hown2 hg2 hat2))
  go_wp2
  go_ret
  have hb2 := hb1.trans ((hkp.out _ hg).mono (by omega))
  exact ⟨v2, rfl, by simpa using hown2, hb2.grown hg2 hb2.size (fun k hk => (hown.lt k hk).1)⟩

/-- what 'New' answers, with the reader of the reference -/
theorem new9_any (F : Nat → Prop) (A : Option Addr) (n c : Nat) (bs : List UInt8) (w : World) (h : RdB w F A n bs) (hl : bs.length ≤ 1000000000) (hF : ∀ k, F k → k < w.heap.size) :
    Calls Try.prog 63 #[.slice A n c] w (NewPost 110 w bs) := by
  have h1 : RdB (w.alloc (.cells #[] 5)) F A n bs := h.keep fun k hk => Below.heap_alloc w _ _ (hF k hk)
  go_enter Try.func63, Try.ntmps63
  go_wp2_with (at_builtin; refine mk_stop ?_)
  refine wpList_apB rfl _ _ rfl w.heap.size _ [] (by rfl) (OwnB.made (Nat.le_refl _)) F A n c bs rfl h1 (by simp; omega) (by simp) ?_
  intro v1 w1 hown hg hat
  have hbel : Below w.heap.size w w1 := ((Below.refl _ _).alloc (Nat.le_refl _) _).grown hg (by simp) (by simp [Value.ownBlock])
  clear hg hat h1
  rw [List.nil_append] at hown
  obtain ⟨A', c', rfl, hc, hm⟩ := hown.form
  have hr := hown.rd
  have hz := hbel.size
  go_wp2
  go_ret
  refine ⟨_, rfl, ⟨_, _, _, _, Blk.new _ _ _, hc, hm, rfl, ?_⟩, hbel.alloc hbel.size _, hbel.size, by simp⟩
  exact ⟨hr.1, (hr.2.keep (fun k hk => Below.heap_alloc w1 _ _ hk.1)).more (fun k hk => ⟨hk.2, hk.1⟩)⟩

set_option maxRecDepth 100000 in
set_option maxHeartbeats 400000 in
theorem fail9_any (g : Nat) (u v : Value) (w : World) (h : Blk w g 110 #[u, v]) :
    Calls Try.prog 84 #[.pointer (some ⟨g, 0, none⟩)] w (FailPost 110 w g) := by
  have h0 := h.cell 0
  have h1 := h.cell 1
  have f0 := h.frozen 0
  have f1 := h.frozen 1
  go_enter Try.func84, Try.ntmps84
  go_wp2
  go_ret
  refine ⟨rfl, ?_, ?_⟩
  · exact (h.set2_0 _).set2_1 _
  · exact only_set (only_set (only_refl _ _) 0 _) 1 _

set_option maxRecDepth 100000 in
set_option maxHeartbeats 400000 in
theorem done9_any (F : Nat → Prop) (g : Nat) (st : RS) (w : World) (h : Rdr 110 w F g st) (hl : rLeft st ≤ 1099511627776) :
    Calls Try.prog 66 #[.pointer (some ⟨g, 0, none⟩)] w fun e w' => e = .returned (.int .i64 (rDone st)) ∧ w = w' := by
  obtain ⟨A, k, c, b, h, hkc, hcm, hm⟩ := h
  have h0 := h.cell 0
  have h1 := h.cell 1
  cases st with
  | none =>
    obtain ⟨rfl, rfl, rfl, rfl⟩ := hm
    go_enter Try.func66, Try.ntmps66
    go_wp2
    go_ret
    exact ⟨rfl, rfl⟩
  | some bs =>
    obtain ⟨rfl, hr⟩ := hm
    have hk := hr.1
    cases bs with
    | nil =>
      obtain rfl : k = 0 := by simpa using hk
      clear hk
      go_enter Try.func66, Try.ntmps66
      go_wp2
      go_ret
      exact ⟨rfl, rfl⟩
    | cons x bs =>
      have hk0 : 0 < k := by rw [hk]; simp
      clear hk
      go_enter Try.func66, Try.ntmps66
      go_wp2
      go_ret
      exact ⟨rfl, rfl⟩

set_option maxRecDepth 100000 in
set_option maxHeartbeats 400000 in
theorem left9_any (F : Nat → Prop) (g : Nat) (st : RS) (w : World) (h : Rdr 110 w F g st) :
    Calls Try.prog 89 #[.pointer (some ⟨g, 0, none⟩)] w fun e w' => e = .returned (.int .i64 (rLeft st : Nat)) ∧ w = w' := by
  obtain ⟨A, k, c, b, h, hkc, hcm, hm⟩ := h
  have h0 := h.cell 0
  have hk : k = rLeft st := by
    cases st with
    | none => exact hm.2.2.1
    | some bs => exact hm.2.1
  subst hk
  go_enter Try.func89, Try.ntmps89
  go_wp2
  go_ret
  exact ⟨rfl, rfl⟩

theorem acc_add (a j x : Nat) (ha : a < 128 ^ j) (hj : j ≤ 9) (h9 : j = 9 → x ≤ 1) :
    IntKind.u64.wrap ((a : Int) + IntKind.u64.wrap (((x : Int) % 128) * 2 ^ (7 * j))) = ((a + x % 128 * 128 ^ j : Nat) : Int) := by
  have hb := acc_bd j x hj h9
  have ha2 : (128 : Nat) ^ j ≤ 9223372036854775808 := Nat.le_trans (Nat.pow_le_pow_right (by decide) hj) (by decide : (128:Nat)^9 ≤ 9223372036854775808)
  rw [show (((x : Int) % 128) * 2 ^ (7 * j)) = ((x % 128 * 2 ^ (7 * j) : Nat) : Int) by push_cast; rfl, IntKind.wrap_u64, IntKind.wrap_u64, pow_128]
  omega

theorem acc_nine {a x j : Nat} (h : j = 9) : (a : Int) + (x : Int) % 128 * 9223372036854775808 = ((a + x % 128 * 128 ^ j : Nat) : Int) := by
  subst h
  rw [show (128 : Nat) ^ 9 = 9223372036854775808 by decide]
  omega

set_option maxRecDepth 100000 in
set_option maxHeartbeats 400000 in
theorem uint9_none (F : Nat → Prop) (g : Nat) (w : World) (h : Rdr 110 w F g none) :
    Calls Try.prog 64 #[.pointer (some ⟨g, 0, none⟩)] w (UintPost 110 F w g none) := by
  obtain ⟨A, k, c, b, h, hkc, hcm, rfl, rfl, rfl, rfl⟩ := h
  have h0 := h.cell 0
  go_enter Try.func64, Try.ntmps64
  go_wp2_with fail
  refine wp_loop_rounds 1 ?_
  rw [rounds_succ]
  go_wp2_with (go_at_call 84; refine (fail9_any g _ _ _ h).mono ?_; rintro e w2 ⟨rfl, hb2, hg2⟩)
  go_ret2
  exact ⟨rfl, ⟨_, _, _, _, hb2, Nat.le_refl _, Nat.zero_le _, rfl, rfl, rfl, rfl⟩, hg2⟩

set_option maxRecDepth 100000 in
set_option maxHeartbeats 400000 in
theorem uint9_some (F : Nat → Prop) (g : Nat) (bs : List UInt8) (w : World) (h : Rdr 110 w F g (some bs)) (hl : bs.length ≤ 1099511627776) (hF : ∀ k, F k → k < w.heap.size ∧ k ≠ g) :
    Calls Try.prog 64 #[.pointer (some ⟨g, 0, none⟩)] w (UintPost 110 F w g (some bs)) := by
  obtain ⟨A, k, c, b, h, hkc, hcm, rfl, hr⟩ := h
  have h0 := h.cell 0
  have f0 := h.frozen 0
  have hk := hid hr.1
  have hkl : k ≤ 1099511627776 := by rw [hr.1]; exact hl
  have kp := hid (show ∀ u, Kp F w (w.setCell ⟨g, 0, none⟩ u) from fun u j hj => Below.heap_setCell w _ u j (hF j hj).2)
  go_enter Try.func64, Try.ntmps64
  go_wp2_with fail
  go_loop [4, 5] (fun acc i => ∃ (j a : Nat), i = .int .i64 (j : Int) ∧ acc = .int .u64 (a : Int) ∧ Hid (uintFrom j a (some (bs.drop j)) = rUint (some bs)) ∧ j ≤ 9 ∧ j ≤ k ∧ a < 128 ^ j) (fun _ i => 9 - (intOf i).toNat)
  case atStart => exact ⟨0, 0, rfl, rfl, hid (uintFrom_zero _), by omega, by omega, by simp⟩
  case round =>
    obtain ⟨j, a, rfl, rfl, heq, hj, hjk, ha⟩ := hrel
    have ha2 : a < 9223372036854775808 := Nat.lt_of_lt_of_le ha (Nat.le_trans (Nat.pow_le_pow_right (by decide) hj) (by decide : (128:Nat)^9 ≤ 9223372036854775808))
    have hend0 : ∀ e w2, FailPost 110 w g e w2 → uintFrom j a (some (bs.drop j)) = (0, none) → UintPost 110 F w g (some bs) (.returned (.tuple #[.int .u64 0, .int .i64 5])) w2 := by
      rintro e w2 ⟨rfl, hb2, hg2⟩ hz
      refine ⟨by rw [← heq.out, hz]; rfl, by rw [← heq.out, hz]; exact ⟨_, _, _, _, hb2, Nat.le_refl _, Nat.zero_le _, rfl, rfl, rfl, rfl⟩, hg2⟩
    have hend := hid hend0
    clear hend0
    by_cases hjl : j < k
    · have hjb : j < bs.length := by rw [← hk.out]; exact hjl
      obtain ⟨x, bs', hbs⟩ : ∃ x bs', bs.drop j = x :: bs' := ⟨bs[j], bs.drop (j + 1), List.drop_eq_getElem_cons hjb⟩
      have hbs2 : bs.drop (j + 1) = bs' := by rw [← List.drop_drop, hbs]; rfl
      have hx := x.toNat_lt
      obtain ⟨b, o, rfl, hb, hc⟩ := hr.2.2 (by omega)
      have hcell : w.cell? ⟨b, o + j, none⟩ = some (.int .u8 (x.toNat : Int)) := hc j _ (by
        have : bs[j]? = some x := by
          have := congrArg (fun l : List UInt8 => l[0]?) hbs
          simpa using this
        rw [List.getElem?_map, this]; rfl)
      clear hc
      have hbs' := hid hbs
      have hbs2' := hid hbs2
      clear hbs hbs2
      have hbs := hbs'
      have hbs2 := hbs2'
      clear hbs' hbs2'
      by_cases hbad : (j = 9 ∧ 1 < x.toNat) ∨ (x.toNat = 0 ∧ 0 < j)
      · have hz : uintFrom j a (some (bs.drop j)) = (0, none) := by rw [hbs.out, uintFrom_bad hbad]
        have hz := hid hz
        rcases hbad with ⟨rfl, h1⟩ | ⟨h00, hj0⟩
        · go_wp2_with (go_at_call 84; refine (fail9_any g _ _ _ h).mono ?_; intro e w2 hf; have he := hf.1; subst he)
          go_ret2
          exact hend.out _ _ hf hz.out
        · have hx0 : x = 0 := UInt8.toNat_inj.1 h00
          subst hx0
          by_cases hj9 : j = 9
          · subst hj9
            go_wp2_with (go_at_call 84; refine (fail9_any g _ _ _ h).mono ?_; intro e w2 hf; have he := hf.1; subst he)
            go_ret2
            exact hend.out _ _ hf hz.out
          · go_wp2_with (go_at_call 84; refine (fail9_any g _ _ _ h).mono ?_; intro e w2 hf; have he := hf.1; subst he)
            go_ret2
            exact hend.out _ _ hf hz.out
      · by_cases hbig : 128 ≤ x.toNat
        · have hj9 : j < 9 := by omega
          have e := acc_add a j x.toNat ha hj (by omega)
          go_wp2
          go_round
          case rel => exact ⟨j + 1, a + x.toNat % 128 * 128 ^ j, by go_num, rfl, hid (by rw [← heq.out, hbs.out, uintFrom_big hbig hj9, hbs2.out]), by omega, by omega, by
            have h1 : x.toNat % 128 * 128 ^ j ≤ 127 * 128 ^ j := Nat.mul_le_mul_right _ (by omega)
            rw [Nat.pow_succ]; omega⟩
          case measure => simp [intOf]; omega
        · have hret := uintFrom_ret (j := j) (a := a) (x := x) (bs := bs') (by omega) hj (by omega) (by omega)
          have hcut := hr.cut (n := j + 1) (c := c) (by omega) hkc
          rw [hbs2.out] at hcut
          have hend2 : ∀ (v : Int) w2 A' n' c', v = ((a + x.toNat % 128 * 128 ^ j : Nat) : Int) → Blk w2 g 110 #[.slice A' n' c', .bool false] → A' = cutA (some ⟨b, o, none⟩) c (j + 1) 1 → n' = k - (j + 1) → n' ≤ c' → c' ≤ maxLen →
              Kp F w w2 → w.grownBy w2 (some g) → UintPost 110 F w g (some bs) (.returned (.tuple #[.int .u64 v, .int .i64 0])) w2 := by
            rintro v w2 A' n' c' rfl hb2 rfl rfl h1 h2 hkp hg2
            refine ⟨by rw [← heq.out, hbs.out, hret]; rfl, ?_, hg2⟩
            rw [← heq.out, hbs.out, hret]
            exact ⟨_, _, _, _, hb2, h1, h2, rfl, hcut.keep hkp⟩
          have hfin := hid hend2
          have hadd := hid (acc_add a j x.toNat ha hj (by omega))
          clear hend2 hret hcut heq hend
          by_cases hcj : c = j + 1
          · have hcut1 := hid (show some ⟨b, o, none⟩ = cutA (some ⟨b, o, none⟩) c (j + 1) 1 by unfold cutA; rw [if_pos hcj])
            have hb2 := hid (show ∀ u, Blk (w.setCell ⟨g, 0, none⟩ u) g 110 #[u, .bool false] from fun u => h.set2_0 u)
            clear hbs hbs2
            go_wp2
            all_goals go_ret2
            all_goals refine hfin.out _ _ _ _ _ ?_ (hb2.out _) ?_ ?_ ?_ ?_ (kp.out _) (only_set (only_refl _ _) 0 _)
            all_goals first | exact hcut1.out | exact hadd.out | exact acc_nine (by omega) | omega | (obtain rfl : j = 9 := (by omega); exact hcut1.out)
          · have hcut1 := hid (show some ⟨b, o + (j + 1), none⟩ = cutA (some ⟨b, o, none⟩) c (j + 1) 1 by unfold cutA; rw [if_neg hcj]; simp [Addr.add])
            have hb2 := hid (show ∀ u, Blk (w.setCell ⟨g, 0, none⟩ u) g 110 #[u, .bool false] from fun u => h.set2_0 u)
            clear hbs hbs2
            go_wp2
            all_goals go_ret2
            all_goals refine hfin.out _ _ _ _ _ ?_ (hb2.out _) ?_ ?_ ?_ ?_ (kp.out _) (only_set (only_refl _ _) 0 _)
            all_goals first | exact hcut1.out | exact hadd.out | exact acc_nine (by omega) | omega | (obtain rfl : j = 9 := (by omega); exact hcut1.out)
    · have hz : uintFrom j a (some (bs.drop j)) = (0, none) := by
        have : bs.drop j = [] := List.drop_eq_nil_of_le (by have := hk.out; omega)
        rw [this, uintFrom_nil]
      have hz := hid hz
      go_wp2_with (go_at_call 84; refine (fail9_any g _ _ _ h).mono ?_; intro e w2 hf; have he := hf.1; subst he)
      go_ret2
      exact hend.out _ _ hf hz.out

end Go.Proofs.Ytbcmpfdhpefdbaa
