/- The contracts of the reference's encodings (tegularef09). The contracts of the reference's encodings (tegularef09), second part: the reader. -/
import Derived.Test.YtbcmpfdhpefdbaaKB
set_option linter.unusedVariables false
set_option linter.unusedSimpArgs false
namespace Go.Proofs.Ytbcmpfdhpefdbaa
open Go.RowKit

theorem rem_128 (k : Nat) (h : k < 18446744073709551616) : (((k : Int) % 128 + 128 : Int)) = ((k % 128 + 128 : Nat) : Int) := by omega

set_option maxRecDepth 100000 in
set_option maxHeartbeats 400000 in
theorem appendUint9_any (F : Nat → Prop) (A : Option Addr) (k c : Nat) (bs : List UInt8) (n : Nat) (w : World) (h : RdB w F A k bs) (hl : bs.length ≤ 1000000000) (hF : ∀ k, F k → k < w.heap.size) (hn : n < 18446744073709551616) :
    Calls Try.prog 72 #[.slice A k c, .int .u64 (n : Int)] w (RetB w.heap.size w (bs ++ enc n)) := by
  have hen := enc_len10 hn
  have h1 : RdB (w.alloc (.cells #[] 5)) F A k bs := h.keep fun k hk => Below.heap_alloc w _ _ (hF k hk)
  go_enter Try.func72, Try.ntmps72
  go_wp2_with (at_builtin; refine mk_stop ?_)
  refine wpList_apB rfl _ _ rfl w.heap.size _ [] (by rfl) (OwnB.made (Nat.le_refl _)) F A k c bs rfl h1 (by simp; omega) (by simp) ?_
  intro v1 w1 hown hg hat
  have hbel : Below w.heap.size w w1 := ((Below.refl _ _).alloc (Nat.le_refl _) _).grown hg (by simp) (by simp [Value.ownBlock])
  clear hg hat h1
  go_wp2_with fail
  go_loopw [5, 1] (fun out m wr => ∃ (k : Nat) (d : List UInt8), m = .int .u64 (k : Int) ∧ OwnB w.heap.size wr out (bs ++ d) ∧ Below w.heap.size w wr ∧ Hid (d ++ enc k = enc n) ∧ k ≤ n) (fun _ m _ => (intOf m).toNat)
  case atStart => exact ⟨n, [], rfl, by simpa using hown, hbel, rfl, Nat.le_refl _⟩
  case round =>
    clear hown hbel
    obtain ⟨k, d, rfl, hown, hbel, hd, hk⟩ := hrel
    have hdl : d.length ≤ 10 := by have := congrArg List.length hd.out; simp at this; omega
    by_cases hlt : k < 128
    · go_wp2_with (at_builtin; refine mk_stop ?_)
      refine wpList_apB1 rfl _ _ rfl w.heap.size _ _ (by rfl) hown _ (by rfl) k (by omega) rfl (by simp; omega) hbel.size ?_
      intro v2 w2 hown2 hg2 hat2
      go_wp2
      go_ret
      refine ⟨v2, rfl, ?_, hbel.grown hg2 hbel.size (fun k hk => (hown.lt k hk).1)⟩
      rw [← hd.out, enc_small hlt]
      simpa using hown2
    · go_wp2_with (at_builtin; refine mk_stop ?_)
      refine wpList_apB1 rfl _ _ rfl w.heap.size _ _ (by rfl) hown _ (by rfl) (k % 128 + 128) (by omega) (rem_128 k (by omega)) (by simp; omega) hbel.size ?_
      intro v2 w2 hown2 hg2 hat2
      go_wp2
      go_roundw
      case rel => exact ⟨k / 128, d ++ [UInt8.ofNat (k % 128 + 128)], by go_num, by simpa using hown2, hbel.grown hg2 hbel.size (fun k hk => (hown.lt k hk).1), hid (by rw [← hd.out, enc_big hlt]; simp), by omega⟩
      case measure => simp [intOf]; omega

set_option maxRecDepth 100000 in
set_option maxHeartbeats 400000 in
theorem appendBytes9_any (F : Nat → Prop) (A : Option Addr) (k c : Nat) (bs : List UInt8) (G : Nat → Prop) (A' : Option Addr) (k' c' : Nat) (ys : List UInt8) (w : World) (h : RdB w F A k bs) (h' : RdB w G A' k' ys)
    (hl : bs.length + ys.length ≤ 100000000) (hF : ∀ k, F k → k < w.heap.size) (hG : ∀ k, G k → k < w.heap.size) :
    Calls Try.prog 73 #[.slice A k c, .slice A' k' c'] w (RetB w.heap.size w (bs ++ enc ys.length ++ ys)) := by
  have hk := h'.1
  have hkl : k' ≤ 100000000 := by omega
  have hen := enc_len10 (n := ys.length) (by omega)
  clear hk
  go_enter Try.func73, Try.ntmps73
  go_wp2_with fail
  refine (appendUint9_any F _ _ _ bs k' _ h (by omega) hF (by omega)).mono ?_
  rintro e w1 ⟨v1, rfl, hown, hbel⟩
  go_wp2_with (at_builtin; refine mk_stop ?_)
  refine wpList_apB rfl _ _ rfl w.heap.size _ _ (by rfl) hown G A' k' c' ys rfl (h'.keep (Kp.of_below hbel hG)) (by have := h'.1; rw [← this] at hen; simp; omega) hbel.size ?_
  intro v2 w2 hown2 hg2 hat2
  go_wp2
  go_ret
  refine ⟨v2, rfl, by rw [← h'.1]; exact hown2, hbel.grown hg2 hbel.size (fun k hk => (hown.lt k hk).1)⟩

set_option maxRecDepth 100000 in
set_option maxHeartbeats 400000 in
theorem appendInt9_any (F : Nat → Prop) (A : Option Addr) (k c : Nat) (bs : List UInt8) (n : Int) (w : World) (h : RdB w F A k bs) (hl : bs.length ≤ 100000000) (hF : ∀ k, F k → k < w.heap.size)
    (h0 : -9223372036854775808 ≤ n) (h1 : n ≤ 9223372036854775807) :
    Calls Try.prog 75 #[.slice A k c, .int .i64 n] w (RetB w.heap.size w (bs ++ enc (zig n))) := by
  have hz := zig_lt h0 h1
  by_cases hn : 0 ≤ n
  · have e : 2 * n = (zig n : Nat) := by unfold zig; rw [if_pos hn]; omega
    go_enter Try.func75, Try.ntmps75
    go_wp2_with fail
    refine (appendUint9_any F _ _ _ bs _ _ h (by omega) hF hz).mono ?_
    rintro e w1 ⟨v1, rfl, hown, hbel⟩
    go_wp2
    go_ret
    exact ⟨v1, rfl, hown, hbel⟩
  · have hn : n < 0 := by omega
    have e : 2 * (-(n+1)) + 1 = (zig n : Nat) := by unfold zig; rw [if_neg (by omega)]; omega
    go_enter Try.func75, Try.ntmps75
    go_wp2_with fail
    refine (appendUint9_any F _ _ _ bs _ _ h (by omega) hF hz).mono ?_
    rintro e w1 ⟨v1, rfl, hown, hbel⟩
    go_wp2
    go_ret
    exact ⟨v1, rfl, hown, hbel⟩

set_option maxRecDepth 100000 in
set_option maxHeartbeats 400000 in
theorem appendBlock9_any (F : Nat → Prop) (A : Option Addr) (k c : Nat) (bs : List UInt8) (x : B8) (w : World) (h : RdB w F A k bs)
    (hl : bs.length  ≤ 100000000) (hF : ∀ k, F k → k < w.heap.size)  :
    Calls Try.prog 74 #[.slice A k c, .agg x.cells] w (RetB w.heap.size w (bs ++ x.list)) := by
  have hx : RdB (w.alloc (.cells x.cells 75)) (fun k => k = w.heap.size) (some ⟨w.heap.size, 0, none⟩) 8 x.list :=
    ⟨rfl, rfl, fun _ => ⟨_, _, rfl, rfl, fun j u hu => by
      rw [cell_of_row _ _ _ _ _ _ (heap_alloc_new w _), Nat.zero_add, ← Array.getElem?_toList, B8.cells_list]; exact hu⟩⟩
  have h1 : RdB (w.alloc (.cells x.cells 75)) F A k bs := h.keep fun k hk => Below.heap_alloc w _ _ (hF k hk)
  have hF1 : ∀ k, F k → k < (w.alloc (.cells x.cells 75)).heap.size := fun k hk => by have := hF k hk; simp; omega
  have hz1 : w.heap.size < (w.alloc (.cells x.cells 75)).heap.size := by simp
  have hb1 : Below w.heap.size w (w.alloc (.cells x.cells 75)) := (Below.refl _ _).alloc (Nat.le_refl _) _
  have hkp : ∀ w1, ((w.alloc (.cells x.cells 75)).alloc (.cells #[] 5)).drew.grownBy w1 (Value.slice (some ⟨w.heap.size + 1, 0, none⟩) 0 0).ownBlock → Below (w.heap.size + 1) (w.alloc (.cells x.cells 75)) w1 := fun w1 hg =>
    (((Below.refl _ _).alloc (by simp) _).drew).grown hg (by simp) (by simp [Value.ownBlock])
  have hkp := hid hkp
  have hmade : OwnB w.heap.size ((w.alloc (.cells x.cells 75)).alloc (.cells #[] 5)).drew (.slice (some ⟨w.heap.size + 1, 0, none⟩) 0 0) [] := by
    have := OwnB.made_drew (base := w.heap.size) (w := w.alloc (.cells x.cells 75)) (by simp)
    rwa [show (w.alloc (.cells x.cells 75)).heap.size = w.heap.size + 1 by simp] at this
  unfold B8.cells B at hx h1 hF1 hz1 hb1 hkp hmade
  unfold B8.cells B
  go_enter Try.func74, Try.ntmps74
  go_wp2_with fail
  go_region_held3 (fun _ => True) (trivial) (first | (refine step_apB (by rfl) _ _ (by rfl) w.heap.size (.slice (some ⟨w.heap.size + 1, 0, none⟩) 0 0) [] (by rfl) hmade F A k c bs (by rfl) ((h1.keep (fun k hk => Below.heap_alloc _ _ _ (hF1 k hk))).drew) (by simp; omega) (by simp; omega) ?_; intro v1 w1 hown hg hat) | (refine step_apB (by rfl) _ _ (by rfl) w.heap.size v1 _ (by rfl) hown (fun k => k = w.heap.size) (some ⟨w.heap.size, 0, none⟩) 8 8 x.list (by rfl) (hx.keep (fun k hk => (hkp.out _ hg).block k (by rw [hk]; omega))) (by simp [B8.list]; omega) (by have := (hkp.out _ hg).size; simp at this; omega) ?_; intro v2 w2 hown2 hg2 hat2))
  go_wp2
  go_ret
  have hb2 := hb1.trans ((hkp.out _ hg).mono (by omega))
  exact ⟨v2, rfl, by simpa using hown2, hb2.grown hg2 hb2.size (fun k hk => (hown.lt k hk).1)⟩

/-- what 'New' answers, with the reader of the reference -/
theorem new9_any (F : Nat → Prop) (A : Option Addr) (n c : Nat) (bs : List UInt8) (w : World) (h : RdB w F A n bs) (hl : bs.length ≤ 1000000000) (hF : ∀ k, F k → k < w.heap.size) :
    Calls Try.prog 63 #[.slice A n c] w (NewPost 110 w bs) := by
  have h1 : RdB (w.alloc (.cells #[] 5)) F A n bs := h.keep fun k hk => Below.heap_alloc w _ _ (hF k hk)
  go_enter Try.func63, Try.ntmps63
  go_wp2_with (at_builtin; refine mk_stop ?_)
  refine wpList_apB rfl _ _ rfl w.heap.size _ [] (by rfl) (OwnB.made (Nat.le_refl _)) F A n c bs rfl h1 (by simp; omega) (by simp) ?_
  intro v1 w1 hown hg hat
  have hbel : Below w.heap.size w w1 := ((Below.refl _ _).alloc (Nat.le_refl _) _).grown hg (by simp) (by simp [Value.ownBlock])
  clear hg hat h1
  rw [List.nil_append] at hown
  obtain ⟨A', c', rfl, hc, hm⟩ := hown.form
  have hr := hown.rd
  have hz := hbel.size
  go_wp2
  go_ret
  refine ⟨_, rfl, ⟨_, _, _, _, Blk.new _ _ _, hc, hm, rfl, ?_⟩, hbel.alloc hbel.size _, hbel.size, by simp⟩
  exact ⟨hr.1, (hr.2.keep (fun k hk => Below.heap_alloc w1 _ _ hk.1)).more (fun k hk => ⟨hk.2, hk.1⟩)⟩

set_option maxRecDepth 100000 in
set_option maxHeartbeats 400000 in
theorem fail9_any (g : Nat) (u v : Value) (w : World) (h : Blk w g 110 #[u, v]) :
    Calls Try.prog 84 #[.pointer (some ⟨g, 0, none⟩)] w (FailPost 110 w g) := by
  have h0 := h.cell 0
  have h1 := h.cell 1
  have f0 := h.frozen 0
  have f1 := h.frozen 1
  go_enter Try.func84, Try.ntmps84
  go_wp2
  go_ret
  refine ⟨rfl, ?_, ?_⟩
  · exact (h.set2_0 _).set2_1 _
  · exact only_set (only_set (only_refl _ _) 0 _) 1 _

set_option maxRecDepth 100000 in
set_option maxHeartbeats 400000 in
theorem done9_any (F : Nat → Prop) (g : Nat) (st : RS) (w : World) (h : Rdr 110 w F g st) (hl : rLeft st ≤ 1099511627776) :
    Calls Try.prog 66 #[.pointer (some ⟨g, 0, none⟩)] w fun e w' => e = .returned (.int .i64 (rDone st)) ∧ w = w' := by
  obtain ⟨A, k, c, b, h, hkc, hcm, hm⟩ := h
  have h0 := h.cell 0
  have h1 := h.cell 1
  cases st with
  | none =>
    obtain ⟨rfl, rfl, rfl, rfl⟩ := hm
    go_enter Try.func66, Try.ntmps66
    go_wp2
    go_ret
    exact ⟨rfl, rfl⟩
  | some bs =>
    obtain ⟨rfl, hr⟩ := hm
    have hk := hr.1
    cases bs with
    | nil =>
      obtain rfl : k = 0 := by simpa using hk
      clear hk
      go_enter Try.func66, Try.ntmps66
      go_wp2
      go_ret
      exact ⟨rfl, rfl⟩
    | cons x bs =>
      have hk0 : 0 < k := by rw [hk]; simp
      clear hk
      go_enter Try.func66, Try.ntmps66
      go_wp2
      go_ret
      exact ⟨rfl, rfl⟩

set_option maxRecDepth 100000 in
set_option maxHeartbeats 400000 in
theorem left9_any (F : Nat → Prop) (g : Nat) (st : RS) (w : World) (h : Rdr 110 w F g st) :
    Calls Try.prog 89 #[.pointer (some ⟨g, 0, none⟩)] w fun e w' => e = .returned (.int .i64 (rLeft st : Nat)) ∧ w = w' := by
  obtain ⟨A, k, c, b, h, hkc, hcm, hm⟩ := h
  have h0 := h.cell 0
  have hk : k = rLeft st := by
    cases st with
    | none => exact hm.2.2.1
    | some bs => exact hm.2.1
  subst hk
  go_enter Try.func89, Try.ntmps89
  go_wp2
  go_ret
  exact ⟨rfl, rfl⟩

theorem acc_add (a j x : Nat) (ha : a < 128 ^ j) (hj : j ≤ 9) (h9 : j = 9 → x ≤ 1) :
    IntKind.u64.wrap ((a : Int) + IntKind.u64.wrap (((x : Int) % 128) * 2 ^ (7 * j))) = ((a + x % 128 * 128 ^ j : Nat) : Int) := by
  have hb := acc_bd j x hj h9
  have ha2 : (128 : Nat) ^ j ≤ 9223372036854775808 := Nat.le_trans (Nat.pow_le_pow_right (by decide) hj) (by decide : (128:Nat)^9 ≤ 9223372036854775808)
  rw [show (((x : Int) % 128) * 2 ^ (7 * j)) = ((x % 128 * 2 ^ (7 * j) : Nat) : Int) by push_cast; rfl, IntKind.wrap_u64, IntKind.wrap_u64, pow_128]
  omega

theorem acc_nine {a x j : Nat} (h : j = 9) : (a : Int) + (x : Int) % 128 * 9223372036854775808 = ((a + x % 128 * 128 ^ j : Nat) : Int) := by
  subst h
  rw [show (128 : Nat) ^ 9 = 9223372036854775808 by decide]
  omega

set_option maxRecDepth 100000 in
set_option maxHeartbeats 400000 in
theorem uint9_none (F : Nat → Prop) (g : Nat) (w : World) (h : Rdr 110 w F g none) :
    Calls Try.prog 64 #[.pointer (some ⟨g, 0, none⟩)] w (UintPost 110 F w g none) := by
  obtain ⟨A, k, c, b, h, hkc, hcm, rfl, rfl, rfl, rfl⟩ := h
  have h0 := h.cell 0
  go_enter Try.func64, Try.ntmps64
  go_wp2_with fail
  refine wp_loop_rounds 1 ?_
  rw [rounds_succ]
  go_wp2_with (go_at_call 84; refine (fail9_any g _ _ _ h).mono ?_; rintro e w2 ⟨rfl, hb2, hg2⟩)
  go_ret2
  exact ⟨rfl, ⟨_, _, _, _, hb2, Nat.le_refl _, Nat.zero_le _, rfl, rfl, rfl, rfl⟩, hg2⟩

set_option maxRecDepth 100000 in
set_option maxHeartbeats 400000 in
theorem uint9_some (F : Nat → Prop) (g : Nat) (bs : List UInt8) (w : World) (h : Rdr 110 w F g (some bs)) (hl : bs.length ≤ 1099511627776) (hF : ∀ k, F k → k < w.heap.size ∧ k ≠ g) :
    Calls Try.prog 64 #[.pointer (some ⟨g, 0, none⟩)] w (UintPost 110 F w g (some bs)) := by
  obtain ⟨A, k, c, b, h, hkc, hcm, rfl, hr⟩ := h
  have h0 := h.cell 0
  have f0 := h.frozen 0
  have hk := hid hr.1
  have hkl : k ≤ 1099511627776 := by rw [hr.1]; exact hl
  have kp := hid (show ∀ u, Kp F w (w.setCell ⟨g, 0, none⟩ u) from fun u j hj => Below.heap_setCell w _ u j (hF j hj).2)
  go_enter Try.func64, Try.ntmps64
  go_wp2_with fail
  go_loop [4, 5] (fun acc i => ∃ (j a : Nat), i = .int .i64 (j : Int) ∧ acc = .int .u64 (a : Int) ∧ Hid (uintFrom j a (some (bs.drop j)) = rUint (some bs)) ∧ j ≤ 9 ∧ j ≤ k ∧ a < 128 ^ j) (fun _ i => 9 - (intOf i).toNat)
  case atStart => exact ⟨0, 0, rfl, rfl, hid (uintFrom_zero _), by omega, by omega, by simp⟩
  case round =>
    obtain ⟨j, a, rfl, rfl, heq, hj, hjk, ha⟩ := hrel
    have ha2 : a < 9223372036854775808 := Nat.lt_of_lt_of_le ha (Nat.le_trans (Nat.pow_le_pow_right (by decide) hj) (by decide : (128:Nat)^9 ≤ 9223372036854775808))
    have hend0 : ∀ e w2, FailPost 110 w g e w2 → uintFrom j a (some (bs.drop j)) = (0, none) → UintPost 110 F w g (some bs) (.returned (.tuple #[.int .u64 0, .int .i64 5])) w2 := by
      rintro e w2 ⟨rfl, hb2, hg2⟩ hz
      refine ⟨by rw [← heq.out, hz]; rfl, by rw [← heq.out, hz]; exact ⟨_, _, _, _, hb2, Nat.le_refl _, Nat.zero_le _, rfl, rfl, rfl, rfl⟩, hg2⟩
    have hend := hid hend0
    clear hend0
    by_cases hjl : j < k
    · have hjb : j < bs.length := by rw [← hk.out]; exact hjl
      obtain ⟨x, bs', hbs⟩ : ∃ x bs', bs.drop j = x :: bs' := ⟨bs[j], bs.drop (j + 1), List.drop_eq_getElem_cons hjb⟩
      have hbs2 : bs.drop (j + 1) = bs' := by rw [← List.drop_drop, hbs]; rfl
      have hx := x.toNat_lt
      obtain ⟨b, o, rfl, hb, hc⟩ := hr.2.2 (by omega)
      have hcell : w.cell? ⟨b, o + j, none⟩ = some (.int .u8 (x.toNat : Int)) := hc j _ (by
        have : bs[j]? = some x := by
          have := congrArg (fun l : List UInt8 => l[0]?) hbs
          simpa using this
        rw [List.getElem?_map, this]; rfl)
      clear hc
      have hbs' := hid hbs
      have hbs2' := hid hbs2
      clear hbs hbs2
      have hbs := hbs'
      have hbs2 := hbs2'
      clear hbs' hbs2'
      by_cases hbad : (j = 9 ∧ 1 < x.toNat) ∨ (x.toNat = 0 ∧ 0 < j)
      · have hz : uintFrom j a (some (bs.drop j)) = (0, none) := by rw [hbs.out, uintFrom_bad hbad]
        have hz := hid hz
        rcases hbad with ⟨rfl, h1⟩ | ⟨h00, hj0⟩
        · go_wp2_with (go_at_call 84; refine (fail9_any g _ _ _ h).mono ?_; intro e w2 hf; have he := hf.1; subst he)
          go_ret2
          exact hend.out _ _ hf hz.out
        · have hx0 : x = 0 := UInt8.toNat_inj.1 h00
          subst hx0
          by_cases hj9 : j = 9
          · subst hj9
            go_wp2_with (go_at_call 84; refine (fail9_any g _ _ _ h).mono ?_; intro e w2 hf; have he := hf.1; subst he)
            go_ret2
            exact hend.out _ _ hf hz.out
          · go_wp2_with (go_at_call 84; refine (fail9_any g _ _ _ h).mono ?_; intro e w2 hf; have he := hf.1; subst he)
            go_ret2
            exact hend.out _ _ hf hz.out
      · by_cases hbig : 128 ≤ x.toNat
        · have hj9 : j < 9 := by omega
          have e := acc_add a j x.toNat ha hj (by omega)
          go_wp2
          go_round
          case rel => exact ⟨j + 1, a + x.toNat % 128 * 128 ^ j, by go_num, rfl, hid (by rw [← heq.out, hbs.out, uintFrom_big hbig hj9, hbs2.out]), by omega, by omega, by
            have h1 : x.toNat % 128 * 128 ^ j ≤ 127 * 128 ^ j := Nat.mul_le_mul_right _ (by omega)
            rw [Nat.pow_succ]; omega⟩
          case measure => simp [intOf]; omega
        · have hret := uintFrom_ret (j := j) (a := a) (x := x) (bs := bs') (by omega) hj (by omega) (by omega)
          have hcut := hr.cut (n := j + 1) (c := c) (by omega) hkc
          rw [hbs2.out] at hcut
          have hend2 : ∀ (v : Int) w2 A' n' c', v = ((a + x.toNat % 128 * 128 ^ j : Nat) : Int) → Blk w2 g 110 #[.slice A' n' c', .bool false] → A' = cutA (some ⟨b, o, none⟩) c (j + 1) 1 → n' = k - (j + 1) → n' ≤ c' → c' ≤ maxLen →
              Kp F w w2 → w.grownBy w2 (some g) → UintPost 110 F w g (some bs) (.returned (.tuple #[.int .u64 v, .int .i64 0])) w2 := by
            rintro v w2 A' n' c' rfl hb2 rfl rfl h1 h2 hkp hg2
            refine ⟨by rw [← heq.out, hbs.out, hret]; rfl, ?_, hg2⟩
            rw [← heq.out, hbs.out, hret]
            exact ⟨_, _, _, _, hb2, h1, h2, rfl, hcut.keep hkp⟩
          have hfin := hid hend2
          have hadd := hid (acc_add a j x.toNat ha hj (by omega))
          clear hend2 hret hcut heq hend
          by_cases hcj : c = j + 1
          · have hcut1 := hid (show some ⟨b, o, none⟩ = cutA (some ⟨b, o, none⟩) c (j + 1) 1 by unfold cutA; rw [if_pos hcj])
            have hb2 := hid (show ∀ u, Blk (w.setCell ⟨g, 0, none⟩ u) g 110 #[u, .bool false] from fun u => h.set2_0 u)
            clear hbs hbs2
            go_wp2
            all_goals go_ret2
            all_goals refine hfin.out _ _ _ _ _ ?_ (hb2.out _) ?_ ?_ ?_ ?_ (kp.out _) (only_set (only_refl _ _) 0 _)
            all_goals first | exact hcut1.out | exact hadd.out | exact acc_nine (by omega) | omega | (obtain rfl : j = 9 := (by omega); exact hcut1.out)
          · have hcut1 := hid (show some ⟨b, o + (j + 1), none⟩ = cutA (some ⟨b, o, none⟩) c (j + 1) 1 by unfold cutA; rw [if_neg hcj]; simp [Addr.add])
            have hb2 := hid (show ∀ u, Blk (w.setCell ⟨g, 0, none⟩ u) g 110 #[u, .bool false] from fun u => h.set2_0 u)
            clear hbs hbs2
            go_wp2
            all_goals go_ret2
            all_goals refine hfin.out _ _ _ _ _ ?_ (hb2.out _) ?_ ?_ ?_ ?_ (kp.out _) (only_set (only_refl _ _) 0 _)
            all_goals first | exact hcut1.out | exact hadd.out | exact acc_nine (by omega) | omega | (obtain rfl : j = 9 := (by omega); exact hcut1.out)
    · have hz : uintFrom j a (some (bs.drop j)) = (0, none) := by
        have : bs.drop j = [] := List.drop_eq_nil_of_le (by have := hk.out; omega)
        rw [this, uintFrom_nil]
      have hz := hid hz
      go_wp2_with (go_at_call 84; refine (fail9_any g _ _ _ h).mono ?_; intro e w2 hf; have he := hf.1; subst he)
      go_ret2
      exact hend.out _ _ hf hz.out

end Go.Proofs.Ytbcmpfdhpefdbaa

namespace Go.Proofs.Ytbcmpfdhpefdbaa
open Go.RowKit

theorem uint9_any (F : Nat → Prop) (g : Nat) (st : RS) (w : World) (h : Rdr 110 w F g st) (hl : rLeft st ≤ 1099511627776) (hF : ∀ k, F k → k < w.heap.size ∧ k ≠ g) :
    Calls Try.prog 64 #[.pointer (some ⟨g, 0, none⟩)] w (UintPost 110 F w g st) := by
  cases st with
  | none => exact uint9_none F g w h
  | some bs => exact uint9_some F g bs w h hl hF

/-- what the reference's 'Bytes' answers: a slice of its own -/
def BytesPost9 (T : TypeId) (F : Nat → Prop) (w : World) (g : Nat) (st : RS) (e : Ending) (w' : World) : Prop :=
  ∃ v, e = .returned (.tuple #[v, .int .i64 (rErr (rBytes st).2)]) ∧ OwnB w.heap.size w' v (rBytes st).1 ∧ Rdr T w' F g (rBytes st).2 ∧ w.grownBy w' (some g)

set_option maxRecDepth 100000 in
set_option maxHeartbeats 400000 in
theorem bytes9_any (F : Nat → Prop) (g : Nat) (st : RS) (w : World) (h : Rdr 110 w F g st) (hl : rLeft st ≤ 1000000000) (hF : ∀ k, F k → k < w.heap.size ∧ k ≠ g) :
    Calls Try.prog 65 #[.pointer (some ⟨g, 0, none⟩)] w (BytesPost9 110 F w g st) := by
  have hd : Hid ((rUint st).2 = none → rBytes st = ([], none)) := fun e => by unfold rBytes; split <;> simp_all
  have hd2 : Hid (∀ bs, (rUint st).2 = some bs → rBytes st = rTake (rUint st).1 (some bs)) := fun bs e => by unfold rBytes; split <;> simp_all
  have hbd := rUint_bd st
  have hlf := rUint_left (st := st)
  have hgl : g < w.heap.size := by obtain ⟨_, _, _, _, hb, _⟩ := h; exact hb.lt
  go_enter Try.func65, Try.ntmps65
  go_wp2_with fail
  refine (uint9_any F g st _ h (by omega) hF).mono ?_
  rintro e w1 ⟨rfl, hr1, hg1⟩
  generalize (rUint st).1 = n at *
  generalize (rUint st).2 = s at *
  cases s with
  | none =>
    have hd' := hid (hd.out rfl)
    clear hd hd2
    simp only [rErr]
    go_wp2
    go_ret2
    exact ⟨_, by rw [hd'.out]; rfl, by rw [hd'.out]; exact OwnB.nil_, by rw [hd'.out]; exact hr1, hg1⟩
  | some bs =>
    have hd' := hid (hd2.out bs rfl)
    clear hd hd2
    simp only [rErr]
    have hF1 : ∀ k, F k → k < w1.heap.size ∧ k ≠ g := fun k hk => ⟨Nat.lt_of_lt_of_le (hF k hk).1 hg1.size, (hF k hk).2⟩
    have hbl : bs.length ≤ 1000000000 := Nat.le_trans hlf hl
    obtain ⟨A, k, c, b, hb1, hkc, hcm, rfl, hrd⟩ := hr1
    have h0 := hb1.cell 0
    have f0 := hb1.frozen 0
    have hk := hid hrd.1
    have hkl : k ≤ 1000000000 := by rw [hk.out]; exact hbl
    by_cases hn : n ≤ bs.length
    · have hnk : n ≤ k := by rw [hk.out]; exact hn
      have e1 := hid (show rBytes st = (bs.take n, some (bs.drop n)) by rw [hd'.out, rTake, if_pos hn])
      have htk := hrd.take_ hnk
      have hcut := hrd.cut hnk hkc
      have h0' : (w1.alloc (.cells #[] 5)).cell? ⟨g, 0, none⟩ = some (.slice A k c) := by rw [World.cell?_alloc_lt _ _ _ hb1.lt]; exact h0
      go_wp2_with (at_builtin; refine mk_stop ?_)
      refine wpList_apB rfl _ _ rfl w1.heap.size (.slice (some ⟨w1.heap.size, 0, none⟩) 0 0) [] (by rfl) (OwnB.made (Nat.le_refl _)) F A n c (bs.take n) rfl (htk.keep (fun k hk => Below.heap_alloc w1 _ _ (hF1 k hk).1)) (by simp; omega) (by simp) ?_
      intro v2 w2 hown hg2 hat
      have hbel : Below w1.heap.size w1 w2 := ((Below.refl _ _).alloc (Nat.le_refl _) _).grown hg2 (by simp) (by simp [Value.ownBlock])
      clear hg2 hat h0'
      have hb2 := hb1.below hbel hb1.lt
      have h02 := hb2.cell 0
      have f02 := hb2.frozen 0
      have hkp : ∀ u, Kp F w1 (w2.setCell ⟨g, 0, none⟩ u) := fun u j hj => (Below.heap_setCell w2 _ u j (hF1 j hj).2).trans (hbel.block j (hF1 j hj).1)
      have hfin : ∀ u, w.grownBy (w2.setCell ⟨g, 0, none⟩ u) (some g) := fun u => (hg1.trans (only_of_below hbel _)).trans (only_set (only_refl _ _) 0 u)
      have hown2 : ∀ u, OwnB w.heap.size (w2.setCell ⟨g, 0, none⟩ u) v2 (bs.take n) := fun u => by
        rw [List.nil_append] at hown
        exact (hown.grown (only_set (only_refl _ _) 0 u) (by
          rcases hv : v2.ownBlock with _ | j
          · exact .inl rfl
          · refine .inr (fun e => ?_)
            injection e with e
            have := (hown.lt j hv).1
            have := hb1.lt
            omega)).lower hg1.size
      have hkp := hid hkp
      have hfin' := hid hfin
      have hown2' := hid hown2
      clear hfin hown2 hown h0 f0
      by_cases hcn : c = n
      · have hca := hid (show A = cutA A c n 1 by unfold cutA; rw [if_pos hcn])
        go_wp2
        go_ret2
        refine ⟨v2, by rw [e1.out]; rfl, by rw [e1.out]; exact hown2'.out _, ?_, hfin'.out _⟩
        rw [e1.out]
        exact ⟨_, _, _, _, hb2.set2_0 _, by omega, by omega, rfl, by have := hcut.keep (hkp.out (.slice A (k - n) 0)); rw [← hca.out] at this; exact this⟩
      · have hca := hid (show A.map (fun x => x.add n) = cutA A c n 1 by unfold cutA; rw [if_neg hcn, Nat.mul_one])
        go_wp2
        go_ret2
        refine ⟨v2, by rw [e1.out]; rfl, by rw [e1.out]; exact hown2'.out _, ?_, hfin'.out _⟩
        rw [e1.out]
        exact ⟨_, _, _, _, hb2.set2_0 _, by omega, by omega, rfl, by have := hcut.keep (hkp.out (.slice (A.map (fun x => x.add n)) (k - n) (c - n))); rw [← hca.out] at this; exact this⟩
    · have hkn : k < n := by rw [hk.out]; omega
      have e1 := hid (show rBytes st = ([], none) by rw [hd'.out, rTake, if_neg hn])
      go_wp2_with (go_at_call 84; refine (fail9_any g _ _ _ hb1).mono ?_; rintro e w2 ⟨rfl, hb2, hg2⟩)
      go_ret2
      exact ⟨_, by rw [e1.out]; rfl, by rw [e1.out]; exact OwnB.nil_, by rw [e1.out]; exact ⟨_, _, _, _, hb2, Nat.le_refl _, Nat.zero_le _, rfl, rfl, rfl, rfl⟩, hg1.trans hg2⟩

set_option maxRecDepth 100000 in
set_option maxHeartbeats 400000 in
theorem int9_any (F : Nat → Prop) (g : Nat) (st : RS) (w : World) (h : Rdr 110 w F g st) (hl : rLeft st ≤ 1099511627776) (hF : ∀ k, F k → k < w.heap.size ∧ k ≠ g) :
    Calls Try.prog 91 #[.pointer (some ⟨g, 0, none⟩)] w (IntPost 110 F w g st) := by
  have hd : Hid ((rUint st).2 = none → rInt st = (0, none)) := fun e => by unfold rInt; split <;> simp_all
  have hd2 : Hid (∀ bs, (rUint st).2 = some bs → rInt st = (zag (rUint st).1, some bs)) := fun bs e => by unfold rInt; split <;> simp_all
  have hbd := rUint_bd st
  go_enter Try.func91, Try.ntmps91
  go_wp2_with fail
  refine (uint9_any F g st _ h hl hF).mono ?_
  rintro e w1 ⟨rfl, hr1, hg1⟩
  generalize (rUint st).1 = n at *
  generalize (rUint st).2 = s at *
  cases s with
  | none =>
    have hd' := hid (hd.out rfl)
    clear hd hd2
    simp only [rErr]
    go_wp2
    go_ret2
    exact ⟨by rw [hd'.out]; rfl, by rw [hd'.out]; exact hr1, hg1⟩
  | some bs =>
    have hd' := hid (hd2.out bs rfl)
    clear hd hd2
    simp only [rErr]
    by_cases h2 : n % 2 = 0
    · have hz := hid (show (n : Int) / 2 = zag n by unfold zag; rw [if_pos h2]; omega)
      go_wp2
      go_ret2
      exact ⟨by rw [hd'.out, ← hz.out]; rfl, by rw [hd'.out]; exact hr1, hg1⟩
    · have hz := hid (show -((n : Int) / 2) - 1 = zag n by unfold zag; rw [if_neg h2]; omega)
      go_wp2
      go_ret2
      exact ⟨by rw [hd'.out, ← hz.out]; rfl, by rw [hd'.out]; exact hr1, hg1⟩

theorem Blk.z8 {w : World} {g : Nat} {t : TypeId} {v0 v1 v2 v3 v4 v5 v6 v7 : Value} (h : Blk w g t #[v0, v1, v2, v3, v4, v5, v6, v7]) (u0 u1 u2 u3 u4 u5 u6 u7 : Value) :
    Blk ((((((((w.setCell ⟨g, 0, none⟩ u0).setCell ⟨g, 1, none⟩ u1).setCell ⟨g, 2, none⟩ u2).setCell ⟨g, 3, none⟩ u3).setCell ⟨g, 4, none⟩ u4).setCell ⟨g, 5, none⟩ u5).setCell ⟨g, 6, none⟩ u6).setCell ⟨g, 7, none⟩ u7) g t #[u0, u1, u2, u3, u4, u5, u6, u7] := by
  have h0 : Blk (w.setCell ⟨g, 0, none⟩ u0) g t #[u0, v1, v2, v3, v4, v5, v6, v7] := h.set_ 0 u0
  have h1 : Blk ((w.setCell ⟨g, 0, none⟩ u0).setCell ⟨g, 1, none⟩ u1) g t #[u0, u1, v2, v3, v4, v5, v6, v7] := h0.set_ 1 u1
  have h2 : Blk (((w.setCell ⟨g, 0, none⟩ u0).setCell ⟨g, 1, none⟩ u1).setCell ⟨g, 2, none⟩ u2) g t #[u0, u1, u2, v3, v4, v5, v6, v7] := h1.set_ 2 u2
  have h3 : Blk ((((w.setCell ⟨g, 0, none⟩ u0).setCell ⟨g, 1, none⟩ u1).setCell ⟨g, 2, none⟩ u2).setCell ⟨g, 3, none⟩ u3) g t #[u0, u1, u2, u3, v4, v5, v6, v7] := h2.set_ 3 u3
  have h4 : Blk (((((w.setCell ⟨g, 0, none⟩ u0).setCell ⟨g, 1, none⟩ u1).setCell ⟨g, 2, none⟩ u2).setCell ⟨g, 3, none⟩ u3).setCell ⟨g, 4, none⟩ u4) g t #[u0, u1, u2, u3, u4, v5, v6, v7] := h3.set_ 4 u4
  have h5 : Blk ((((((w.setCell ⟨g, 0, none⟩ u0).setCell ⟨g, 1, none⟩ u1).setCell ⟨g, 2, none⟩ u2).setCell ⟨g, 3, none⟩ u3).setCell ⟨g, 4, none⟩ u4).setCell ⟨g, 5, none⟩ u5) g t #[u0, u1, u2, u3, u4, u5, v6, v7] := h4.set_ 5 u5
  have h6 : Blk (((((((w.setCell ⟨g, 0, none⟩ u0).setCell ⟨g, 1, none⟩ u1).setCell ⟨g, 2, none⟩ u2).setCell ⟨g, 3, none⟩ u3).setCell ⟨g, 4, none⟩ u4).setCell ⟨g, 5, none⟩ u5).setCell ⟨g, 6, none⟩ u6) g t #[u0, u1, u2, u3, u4, u5, u6, v7] := h5.set_ 6 u6
  have h7 : Blk ((((((((w.setCell ⟨g, 0, none⟩ u0).setCell ⟨g, 1, none⟩ u1).setCell ⟨g, 2, none⟩ u2).setCell ⟨g, 3, none⟩ u3).setCell ⟨g, 4, none⟩ u4).setCell ⟨g, 5, none⟩ u5).setCell ⟨g, 6, none⟩ u6).setCell ⟨g, 7, none⟩ u7) g t #[u0, u1, u2, u3, u4, u5, u6, u7] := h6.set_ 7 u7
  exact h7

/-- two zero blocks -/
def Z2 (g : Nat) (w : World) : Prop := Blk w g 75 #[.int .u8 0, .int .u8 0, .int .u8 0, .int .u8 0, .int .u8 0, .int .u8 0, .int .u8 0, .int .u8 0] ∧ Blk w (g + 1) 75 #[.int .u8 0, .int .u8 0, .int .u8 0, .int .u8 0, .int .u8 0, .int .u8 0, .int .u8 0, .int .u8 0]
def zset (w : World) (g : Nat) : World := (((((((w.setCell ⟨g, 0, none⟩ (.int .u8 0)).setCell ⟨g, 1, none⟩ (.int .u8 0)).setCell ⟨g, 2, none⟩ (.int .u8 0)).setCell ⟨g, 3, none⟩ (.int .u8 0)).setCell ⟨g, 4, none⟩ (.int .u8 0)).setCell ⟨g, 5, none⟩ (.int .u8 0)).setCell ⟨g, 6, none⟩ (.int .u8 0)).setCell ⟨g, 7, none⟩ (.int .u8 0)
theorem Blk.farSet {w : World} {g g' j : Nat} {t : TypeId} {cs : Array Value} {u : Value} (h : Blk w g t cs) (hne : g ≠ g') : Blk (w.setCell ⟨g', j, none⟩ u) g t cs := h.far hne u
theorem Z2.zset {g : Nat} {w : World} (h : Z2 g w) : Z2 g (zset w g) :=
  ⟨Blk.z8 h.1 _ _ _ _ _ _ _ _, (((((((Blk.farSet h.2 (by omega)).farSet (by omega)).farSet (by omega)).farSet (by omega)).farSet (by omega)).farSet (by omega)).farSet (by omega)).farSet (by omega)⟩
theorem zset_only (w : World) (g : Nat) : w.grownBy (zset w g) (some g) :=
  only_set (only_set (only_set (only_set (only_set (only_set (only_set (only_set (only_refl _ _) 0 _) 1 _) 2 _) 3 _) 4 _) 5 _) 6 _) 7 _

set_option maxRecDepth 100000 in
set_option maxHeartbeats 1000000 in
theorem block9_bad (F : Nat → Prop) (g : Nat) (st : RS) (w : World) (h : Rdr 110 w F g st) (hl : rLeft st < 8) :
    Calls Try.prog 90 #[.pointer (some ⟨g, 0, none⟩)] w (BlockPost 110 F w g st) := by
  obtain ⟨A, k, c, b, hb, hkc, hcm, hm⟩ := h
  have hgl := hb.lt
  have hk : k = rLeft st := by
    cases st with
    | none => exact hm.2.2.1
    | some bs => exact hm.2.1
  have hk8 : k < 8 := by omega
  clear hk
  have e1 := hid (show rBlock st = (B8.zero, none) by unfold rBlock; cases st with | none => rfl | some bs => simp only [rLeft] at hl; simp; omega)
  have hrow := hid (show Try.prog.underlying 75 = some (.array 8 5) by kernel_rfl)
  have hinf := hid (show (Try.prog.info? 75).map (·.size) = some 8 by kernel_rfl)
  have h0 := hb.cell 0
  have h0' : ((w.alloc (.cells B8.zero.cells 75)).alloc (.cells B8.zero.cells 75)).cell? ⟨g, 0, none⟩ = some (.slice A k c) := by
    rw [World.cell?_alloc_lt _ _ _ (by simp; omega), World.cell?_alloc_lt _ _ _ hgl]; exact h0
  have hb' : Blk ((w.alloc (.cells B8.zero.cells 75)).alloc (.cells B8.zero.cells 75)).drew g 110 #[.slice A k c, .bool b] := (hb.alloc _).alloc _
  have hz : Z2 w.heap.size ((w.alloc (.cells B8.zero.cells 75)).alloc (.cells B8.zero.cells 75)).drew := by
    refine ⟨(Blk.new w _ _).alloc _, ?_⟩
    have := Blk.new (w.alloc (.cells B8.zero.cells 75)) 75 B8.zero.cells
    rwa [show (w.alloc (.cells B8.zero.cells 75)).heap.size = w.heap.size + 1 by simp] at this
  have hgr := hid (show ∀ w2, ((w.alloc (.cells B8.zero.cells 75)).alloc (.cells B8.zero.cells 75)).drew.grownBy w2 (some g) → w.grownBy w2 (some g) ∧ Z2 w.heap.size w2 from fun w2 hg2 =>
    ⟨(only_drew (only_alloc (only_alloc (only_refl w _) _) _)).trans hg2, hz.1.grown hg2 (by intro e; injection e; omega), hz.2.grown hg2 (by intro e; injection e; omega)⟩)
  rw [show B8.zero.cells = #[.int .u8 0, .int .u8 0, .int .u8 0, .int .u8 0, .int .u8 0, .int .u8 0, .int .u8 0, .int .u8 0] from rfl] at h0' hb' hz hgr
  go_enter Try.func90, Try.ntmps90
  go_wp2_with fail
  refine wp_region_held_drew (S := fun w' => Blk w' (w.heap.size + 1) 75 #[.int .u8 0, .int .u8 0, .int .u8 0, .int .u8 0, .int .u8 0, .int .u8 0, .int .u8 0, .int .u8 0]) (by kernel_rfl) hz.2 (fun hHeld => ?_)
  refine wpAnyH_take (i := 0) (v := .agg #[.int .u8 0, .int .u8 0, .int .u8 0, .int .u8 0, .int .u8 0, .int .u8 0, .int .u8 0, .int .u8 0]) rfl (by kernel_rfl) (by kernel_rfl) (by kernel_rfl) (fun _ _ _ h => h) (Or.inl ⟨by rfl, fun w' hw' => exec_ldBlk 75 _ rfl (w.heap.size + 1) 75 _ hw' _ rfl hrow.out rfl hinf.out⟩) hHeld ?_
  refine wpAnyH_take (i := 1) (v := .pointer (some ⟨g, 0, none⟩)) rfl (by kernel_rfl) (by kernel_rfl) (by kernel_rfl) (fun _ _ _ h => h) (Or.inl ⟨by rfl, fun w' hw' => rfl⟩) hHeld ?_
  try simp only [Act.put, List.setIfInBounds_toArray, List.set_cons_zero, List.set_cons_succ]
  refine wpAnyH_ready (rs := [2]) (by kernel_rfl) (by simp) ?_
  refine AllReadyH.cons rfl (fun K hK => ?_) AllReadyH.nil
  go_simp
  refine (fail9_any g _ _ _ hb').mono ?_
  rintro e w2 ⟨rfl, hb2, hg2⟩
  obtain ⟨hgr1, hz2⟩ := hgr.out w2 hg2
  refine hK.out _ _ hz2.2 (fun _ => ?_)
  try simp only [Act.put, List.setIfInBounds_toArray, List.set_cons_zero, List.set_cons_succ]
  refine wpAnyH_ready (rs := [3]) (by kernel_rfl) (by simp) ?_
  refine AllReadyH.cons rfl (fun K hK => ?_) AllReadyH.nil
  rw [if_pos (by rfl)]
  refine wp_stBlk 75 _ _ rfl w.heap.size 75 _ #[.int .u8 0, .int .u8 0, .int .u8 0, .int .u8 0, .int .u8 0, .int .u8 0, .int .u8 0, .int .u8 0] hz2.1 rfl rfl hinf.out rfl rfl ?_
  intro w3 hb3 hg3
  refine hK.out _ _ (hz2.2.grown hg3 (by intro e; injection e; omega)) (fun _ => ?_)
  try simp only [Act.put, List.setIfInBounds_toArray, List.set_cons_zero, List.set_cons_succ]
  refine wpAnyH_ready (rs := [4]) (by kernel_rfl) (by simp) ?_
  refine AllReadyH.cons rfl (fun K hK => ?_) AllReadyH.nil
  go_simp
  refine hK.out _ _ (hz2.2.grown hg3 (by intro e; injection e; omega)) (fun _ => ?_)
  try simp only [Act.put, List.setIfInBounds_toArray, List.set_cons_zero, List.set_cons_succ]
  refine wpAnyH_done (by kernel_rfl) ?_ _
  go_wp2
  refine bodyPost_ret (results_ct rfl rfl hb3 hrow.out rfl hinf.out) rfl ?_
  refine ⟨by rw [e1.out]; rfl, ?_, grown_trans_new hgr1 hg3 (Nat.le_refl _)⟩
  rw [e1.out]
  exact ⟨_, _, _, _, hb2.grown hg3 (by intro e; injection e; omega), Nat.le_refl _, Nat.zero_le _, rfl, rfl, rfl, rfl⟩

/-- the block that is being filled -/
def part8 (bs : List UInt8) (j : Nat) : Array Value := ((bs.take j).map B ++ List.replicate (8 - j) (Value.int .u8 0)).toArray
theorem part8_size {bs : List UInt8} {j : Nat} (hb : 8 ≤ bs.length) (hj : j ≤ 8) : (part8 bs j).size = 8 := by simp [part8]; omega
theorem part8_set {bs : List UInt8} {j : Nat} {x : UInt8} (hj : j < 8) (hx : bs[j]? = some x) : (part8 bs j).setIfInBounds j (B x) = part8 bs (j + 1) := by
  have hl : j < bs.length := (List.getElem?_eq_some_iff.1 hx).1
  have e : bs[j] = x := (List.getElem?_eq_some_iff.1 hx).2
  unfold part8
  have h1 : List.replicate (8 - j) (Value.int .u8 0) = .int .u8 0 :: List.replicate (8 - (j + 1)) (.int .u8 0) := by
    rw [show 8 - j = (8 - (j + 1)) + 1 by omega, List.replicate_succ]
  rw [h1, List.setIfInBounds_toArray]
  congr 1
  have hlen : ((bs.take j).map B).length = j := by simp; omega
  rw [List.set_append, if_neg (by omega), hlen, Nat.sub_self, List.set_cons_zero, List.take_add_one, List.map_append, hx]
  simp
theorem part8_end {bs : List UInt8} (hb : 8 ≤ bs.length) : part8 bs 8 = (B8.of bs).cells := by
  match bs, hb with
  | a0 :: a1 :: a2 :: a3 :: a4 :: a5 :: a6 :: a7 :: r, _ => rfl

set_option maxRecDepth 100000 in
set_option maxHeartbeats 1000000 in
theorem block9_ok (F : Nat → Prop) (g : Nat) (bs : List UInt8) (w : World) (h : Rdr 110 w F g (some bs)) (hl : 8 ≤ bs.length) (hl2 : bs.length ≤ 1099511627776) (hF : ∀ k, F k → k < w.heap.size ∧ k ≠ g) :
    Calls Try.prog 90 #[.pointer (some ⟨g, 0, none⟩)] w (BlockPost 110 F w g (some bs)) := by
  obtain ⟨A, k, c, b, hb, hkc, hcm, rfl, hr⟩ := h
  have hgl := hb.lt
  have hk8 : 8 ≤ k := by rw [hr.1]; exact hl
  have hkl : k ≤ 1099511627776 := by rw [hr.1]; exact hl2
  obtain ⟨bb, o, rfl, hFb, hc⟩ := hr.2.2 (by omega)
  have e1 := hid (show rBlock (some bs) = (B8.of bs, some (bs.drop 8)) by simp [rBlock, hl])
  have hrow := hid (show Try.prog.underlying 75 = some (.array 8 5) by kernel_rfl)
  have hinf := hid (show (Try.prog.info? 75).map (·.size) = some 8 by kernel_rfl)
  have hcut := hr.cut (n := 8) hk8 hkc
  have hz1 : Blk ((w.alloc (.cells #[.int .u8 0, .int .u8 0, .int .u8 0, .int .u8 0, .int .u8 0, .int .u8 0, .int .u8 0, .int .u8 0] 75)).alloc (.cells #[.int .u8 0, .int .u8 0, .int .u8 0, .int .u8 0, .int .u8 0, .int .u8 0, .int .u8 0, .int .u8 0] 75)) w.heap.size 75 #[.int .u8 0, .int .u8 0, .int .u8 0, .int .u8 0, .int .u8 0, .int .u8 0, .int .u8 0, .int .u8 0] := (Blk.new w _ _).alloc _
  have hz2 : Blk ((w.alloc (.cells #[.int .u8 0, .int .u8 0, .int .u8 0, .int .u8 0, .int .u8 0, .int .u8 0, .int .u8 0, .int .u8 0] 75)).alloc (.cells #[.int .u8 0, .int .u8 0, .int .u8 0, .int .u8 0, .int .u8 0, .int .u8 0, .int .u8 0, .int .u8 0] 75)) (w.heap.size + 1) 75 (part8 bs 0) := by
    have := Blk.new (w.alloc (.cells #[.int .u8 0, .int .u8 0, .int .u8 0, .int .u8 0, .int .u8 0, .int .u8 0, .int .u8 0, .int .u8 0] 75)) 75 #[.int .u8 0, .int .u8 0, .int .u8 0, .int .u8 0, .int .u8 0, .int .u8 0, .int .u8 0, .int .u8 0]
    rw [show (w.alloc (.cells #[.int .u8 0, .int .u8 0, .int .u8 0, .int .u8 0, .int .u8 0, .int .u8 0, .int .u8 0, .int .u8 0] 75)).heap.size = w.heap.size + 1 by simp] at this
    exact this
  have hg0 : w.grownBy ((w.alloc (.cells #[.int .u8 0, .int .u8 0, .int .u8 0, .int .u8 0, .int .u8 0, .int .u8 0, .int .u8 0, .int .u8 0] 75)).alloc (.cells #[.int .u8 0, .int .u8 0, .int .u8 0, .int .u8 0, .int .u8 0, .int .u8 0, .int .u8 0, .int .u8 0] 75)) (some g) := only_alloc (only_alloc (only_refl w _) _) _
  have hbelow : Below w.heap.size w ((w.alloc (.cells #[.int .u8 0, .int .u8 0, .int .u8 0, .int .u8 0, .int .u8 0, .int .u8 0, .int .u8 0, .int .u8 0] 75)).alloc (.cells #[.int .u8 0, .int .u8 0, .int .u8 0, .int .u8 0, .int .u8 0, .int .u8 0, .int .u8 0, .int .u8 0] 75)) := ((Below.refl _ _).alloc (Nat.le_refl _) _).alloc (by simp) _
  have h0' : ((w.alloc (.cells #[.int .u8 0, .int .u8 0, .int .u8 0, .int .u8 0, .int .u8 0, .int .u8 0, .int .u8 0, .int .u8 0] 75)).alloc (.cells #[.int .u8 0, .int .u8 0, .int .u8 0, .int .u8 0, .int .u8 0, .int .u8 0, .int .u8 0, .int .u8 0] 75)).cell? ⟨g, 0, none⟩ = some (.slice (some ⟨bb, o, none⟩) k c) := by
    rw [World.cell?_alloc_lt _ _ _ (by simp; omega), World.cell?_alloc_lt _ _ _ hgl]; exact hb.cell 0
  have hc := hid hc
  go_enter Try.func90, Try.ntmps90
  go_wp2_with fail
  go_loopw [5] (fun i wr => ∃ j : Nat, i = .int .i64 (j : Int) ∧ j ≤ 8 ∧ Blk wr w.heap.size 75 #[.int .u8 0, .int .u8 0, .int .u8 0, .int .u8 0, .int .u8 0, .int .u8 0, .int .u8 0, .int .u8 0] ∧ Blk wr (w.heap.size + 1) 75 (part8 bs j) ∧ Below w.heap.size w wr) (fun i _ => 8 - (intOf i).toNat)
  case atStart => exact ⟨0, rfl, by omega, hz1, hz2, hbelow⟩
  case round =>
    obtain ⟨j, rfl, hj, hb1, hb2, hbel⟩ := hrel
    clear hz1 hz2 hg0 hbelow h0'
    have hbr := hb.below hbel hgl
    have h0 := hbr.cell 0
    have f0 := hbr.frozen 0
    by_cases hj8 : j < 8
    · obtain ⟨x, hx⟩ : ∃ x, bs[j]? = some x := ⟨bs[j], List.getElem?_eq_getElem _⟩
      have hcell : wr.cell? ⟨bb, o + j, none⟩ = some (.int .u8 (x.toNat : Int)) := by
        rw [hbel.cell (hF bb hFb).1]
        exact hc.out j _ (by rw [List.getElem?_map, hx]; rfl)
      have hcx : wr.cell? ⟨w.heap.size + 1, j, none⟩ = some ((part8 bs j)[j]'(by rw [part8_size hl hj]; exact hj8)) := by rw [hb2.cell, Array.getElem?_eq_getElem]
      have hfx := hb2.frozen j
      have hx := hid hx
      go_wp2
      refine ⟨⟨j + 1, by go_num, by omega, hb1.farSet (by omega), ?_, hbel.setCell (by simp) _⟩, by simp [intOf]; omega⟩
      have := hb2.set_ j (B x)
      rw [part8_set hj8 hx.out] at this
      exact this
    · have hj9 : j = 8 := by omega
      subst hj9
      have hgr := hid (show ∀ u, w.grownBy (wr.setCell ⟨g, 0, none⟩ u) (some g) from fun u => (only_of_below hbel (some g)).trans (only_set (only_refl _ _) 0 u))
      clear hc
      by_cases hc8 : c = 8
      · have hca := hid (show some ⟨bb, o, none⟩ = cutA (some ⟨bb, o, none⟩) c 8 1 by unfold cutA; rw [if_pos hc8])
        have hb1' := hb1.farSet (g' := g) (j := 0) (u := .slice (some ⟨bb, o, none⟩) (k - 8) 0) (by omega)
        have hb2' := hb2.farSet (g' := g) (j := 0) (u := .slice (some ⟨bb, o, none⟩) (k - 8) 0) (by omega)
        rw [part8_end hl] at hb2'
        go_wp2_with (first | (refine wpList_ldBlk rfl 75 _ rfl (w.heap.size + 1) 75 _ hb2' _ rfl hrow.out rfl hinf.out ?_) | (refine wpList_stBlk rfl 75 _ _ rfl w.heap.size 75 _ (B8.of bs).cells hb1' rfl rfl hinf.out rfl rfl ?_; intro w2 hb3 hg3))
        refine bodyPost_ret (results_ct rfl rfl hb3 hrow.out rfl hinf.out) rfl ?_
        refine ⟨by rw [e1.out]; rfl, ?_, grown_trans_new (hgr.out _) hg3 (Nat.le_refl _)⟩
        rw [e1.out]
        refine ⟨_, _, _, _, (hbr.set2_0 (.slice (some ⟨bb, o, none⟩) (k - 8) 0)).grown hg3 (by intro e; injection e; omega), by omega, by omega, rfl, ?_⟩
        have hkp : Kp F w w2 := fun i hi => (hg3.block i (by have := (hF i hi).1; have := (hgr.out (.slice (some ⟨bb, o, none⟩) (k - 8) 0)).size; omega) (by intro e; injection e; have := (hF i hi).1; omega)).trans ((hgr.out (.slice (some ⟨bb, o, none⟩) (k - 8) 0)).block i (hF i hi).1 (by intro e; injection e; exact (hF i hi).2 (by assumption)))
        have := hcut.keep hkp
        rw [← hca.out] at this
        exact this
      · have hca := hid (show some ⟨bb, o + 8, none⟩ = cutA (some ⟨bb, o, none⟩) c 8 1 by unfold cutA; rw [if_neg hc8]; simp [Addr.add])
        have hb1' := hb1.farSet (g' := g) (j := 0) (u := .slice (some ⟨bb, o + 8, none⟩) (k - 8) (c - 8)) (by omega)
        have hb2' := hb2.farSet (g' := g) (j := 0) (u := .slice (some ⟨bb, o + 8, none⟩) (k - 8) (c - 8)) (by omega)
        rw [part8_end hl] at hb2'
        go_wp2_with (first | (refine wpList_ldBlk rfl 75 _ rfl (w.heap.size + 1) 75 _ hb2' _ rfl hrow.out rfl hinf.out ?_) | (refine wpList_stBlk rfl 75 _ _ rfl w.heap.size 75 _ (B8.of bs).cells hb1' rfl rfl hinf.out rfl rfl ?_; intro w2 hb3 hg3))
        refine bodyPost_ret (results_ct rfl rfl hb3 hrow.out rfl hinf.out) rfl ?_
        refine ⟨by rw [e1.out]; rfl, ?_, grown_trans_new (hgr.out _) hg3 (Nat.le_refl _)⟩
        rw [e1.out]
        refine ⟨_, _, _, _, (hbr.set2_0 (.slice (some ⟨bb, o + 8, none⟩) (k - 8) (c - 8))).grown hg3 (by intro e; injection e; omega), by omega, by omega, rfl, ?_⟩
        have hkp : Kp F w w2 := fun i hi => (hg3.block i (by have := (hF i hi).1; have := (hgr.out (.slice (some ⟨bb, o + 8, none⟩) (k - 8) (c - 8))).size; omega) (by intro e; injection e; have := (hF i hi).1; omega)).trans ((hgr.out (.slice (some ⟨bb, o + 8, none⟩) (k - 8) (c - 8))).block i (hF i hi).1 (by intro e; injection e; exact (hF i hi).2 (by assumption)))
        have := hcut.keep hkp
        rw [← hca.out] at this
        exact this

theorem block9_any (F : Nat → Prop) (g : Nat) (st : RS) (w : World) (h : Rdr 110 w F g st) (hl : rLeft st ≤ 1099511627776) (hF : ∀ k, F k → k < w.heap.size ∧ k ≠ g) :
    Calls Try.prog 90 #[.pointer (some ⟨g, 0, none⟩)] w (BlockPost 110 F w g st) := by
  by_cases h8 : rLeft st < 8
  · exact block9_bad F g st w h h8
  · cases st with
    | none => simp [rLeft] at h8
    | some bs => exact block9_ok F g bs w h (by simp only [rLeft] at h8; omega) hl hF

end Go.Proofs.Ytbcmpfdhpefdbaa
