/- The contract of record's Inspect. The contract of record's Inspect: the numbers are read. -/
import Derived.Test.YtbcmpfdhpefdbaaKI
import Derived.Test.YtbcmpfdhpefdbaaKD
import Derived.Test.YtbcmpfdhpefdbaaKB
set_option linter.unusedVariables false
set_option linter.unusedSimpArgs false
namespace Go.Proofs.Ytbcmpfdhpefdbaa
open Go.RowKit
attribute [local irreducible] Go.Calls

theorem info_head : (Try.prog.info? 36).map (·.size) = some 4 := by kernel_rfl

theorem RdB.mk_take {w : World} {F : Nat → Prop} {A : Option Addr} {k : Nat} {bs : List UInt8} (h : RdB w F A k bs) {n : Nat} (hn : n ≤ k) : RdB w F A n (bs.take n) := h.take_ hn

set_option maxRecDepth 100000 in
set_option maxHeartbeats 400000 in
theorem insp_form (F : Nat → Prop) (A : Option Addr) (n c : Nat) (b : List UInt8) (w : World) (h : RdB w F A n b) (hnc : n ≤ c) (hl : b.length ≤ 1000000) (hF : ∀ k, F k → k < w.heap.size) (hbad : b.length < 8 ∨ b[0]? ≠ some 82) :
    Calls Try.prog 23 #[.slice A n c] w (InspPost F w (insp b)) := by
  have hfin := hid (show insp b = Ins.bad 5 by rw [insp, if_pos hbad])
  have hn := h.1
  have hbox : Blk (w.alloc (.cells #[.int .u64 0, .int .u64 0, .int .i64 0, .int .i64 0] 36)) w.heap.size 36 #[.int .u64 0, .int .u64 0, .int .i64 0, .int .i64 0] := Blk.new _ _ _
  have hbel0 : Below w.heap.size w (w.alloc (.cells #[.int .u64 0, .int .u64 0, .int .i64 0, .int .i64 0] 36)) := (Below.refl _ _).alloc (Nat.le_refl _) _
  have hnl : n ≤ 1000000 := by omega
  by_cases h8 : b.length < 8
  · have h8' : n < 8 := by omega
    have hn' := hid hn
    clear hn hbad h8
    go_enter Try.func23, Try.ntmps23
    go_wp2_with (refine wpList_stBlk rfl 36 _ _ rfl w.heap.size 36 _ #[.int .u64 0, .int .u64 0, .int .i64 0, .int .i64 0] hbox rfl rfl info_head rfl rfl ?_; intro w2 hb3 hg3)
    refine bodyPost_ret (results_ctt rfl rfl hb3 Try.underlying36 rfl info_head) rfl ?_
    rw [hfin.out]
    exact inspPost_bad (hbel0.grown hg3 (by simp) (by intro k hk; injection hk with hk; omega))
  · have h8' : 8 ≤ n := by omega
    have h82 : b[0]? ≠ some 82 := hbad.resolve_left h8
    obtain ⟨x, hx⟩ : ∃ x, b[0]? = some x := ⟨b[0]'(by omega), List.getElem?_eq_getElem _⟩
    obtain ⟨bb, o, rfl, hFb, hc⟩ := h.at_ hx
    have hc' : (w.alloc (.cells #[.int .u64 0, .int .u64 0, .int .i64 0, .int .i64 0] 36)).cell? ⟨bb, o, none⟩ = some (.int .u8 (x.toNat : Int)) := (World.cell?_alloc_lt _ _ _ (hF bb hFb)).trans (by simpa using hc)
    have hx82 : ¬ (x.toNat : Int) = 82 := fun e => h82 (by rw [hx]; congr 1; exact UInt8.toNat_inj.1 (by rw [show (82 : UInt8).toNat = 82 from rfl]; omega))
    have hxb : ((x.toNat : Int) != 82) = true := by rw [bne_iff_ne]; exact hx82
    have hn' := hid hn
    clear hn hbad h8 h82 hx hc
    go_enter Try.func23, Try.ntmps23
    go_wp2_with (refine wpList_stBlk rfl 36 _ _ rfl w.heap.size 36 _ #[.int .u64 0, .int .u64 0, .int .i64 0, .int .i64 0] hbox rfl rfl info_head rfl rfl ?_; intro w2 hb3 hg3)
    refine bodyPost_ret (results_ctt rfl rfl hb3 Try.underlying36 rfl info_head) rfl ?_
    rw [hfin.out]
    exact inspPost_bad (hbel0.grown hg3 (by simp) (by intro k hk; injection hk with hk; omega))

set_option maxRecDepth 100000 in
set_option maxHeartbeats 400000 in
theorem insp_sum (F : Nat → Prop) (bb o n c : Nat) (b : List UInt8) (w : World) (h : RdB w F (some ⟨bb, o, none⟩) n b) (hnc : n ≤ c) (hcm : c ≤ maxLen) (hl : b.length ≤ 1000000) (hF : ∀ k, F k → k < w.heap.size) (h8 : 8 ≤ b.length) (h82 : b[0]? = some 82)
    (hbad : sealB (b.take (b.length - 8)) ≠ b) :
    Calls Try.prog 23 #[.slice (some ⟨bb, o, none⟩) n c] w (InspPost F w (insp b)) := by
  have hfin := hid (show insp b = Ins.bad 6 by rw [insp, if_neg (by rintro (e | e); omega; exact e h82), if_pos hbad])
  have hn := h.1
  have hbox : Blk (w.alloc (.cells #[.int .u64 0, .int .u64 0, .int .i64 0, .int .i64 0] 36)) w.heap.size 36 #[.int .u64 0, .int .u64 0, .int .i64 0, .int .i64 0] := Blk.new _ _ _
  have hbel0 : Below w.heap.size w (w.alloc (.cells #[.int .u64 0, .int .u64 0, .int .i64 0, .int .i64 0] 36)) := (Below.refl _ _).alloc (Nat.le_refl _) _
  have hnl : n ≤ 1000000 := by omega
  have h8' : 8 ≤ n := by omega
  obtain ⟨_, _, e, hFb, hc⟩ := h.at_ h82
  injection e with e
  injection e with e1 e2
  subst e1
  subst e2
  have hc' : (w.alloc (.cells #[.int .u64 0, .int .u64 0, .int .i64 0, .int .i64 0] 36)).cell? ⟨bb, o, none⟩ = some (.int .u8 82) := (World.cell?_alloc_lt _ _ _ (hF _ hFb)).trans (by simpa using hc)
  have hr0 := h.keep (Kp.of_below hbel0 hF)
  have hrt := RdB.mk_take hr0 (n := n - 8) (by omega)
  have e3 : b.take (n - 8) = b.take (b.length - 8) := by rw [hn]
  rw [e3] at hrt
  have hsl := sealB_len (b.take (b.length - 8))
  have hbad' := hid hbad
  have hn' := hid hn
  clear hn h8 h82 hc hbad e3
  go_enter Try.func23, Try.ntmps23
  go_wp2_with fail
  refine (clone_any F _ _ _ _ _ hrt (by rw [List.length_take]; omega) (fun k hk => by have := hF k hk; simp; omega)).mono ?_
  intro e w1 hret1
  obtain ⟨A1, c1, d1, rfl, hown1, hbel1, hc1, hm1, hd1⟩ := hret1.opened
  have hl1 : d1.length ≤ 1000000 := by rw [hd1.out, List.length_take]; omega
  clear hret1
  go_wp2_with fail
  refine (sealed_any _ A1 _ c1 d1 _ hown1 (by omega) hbel1.size).mono ?_
  intro e w2 hret2
  obtain ⟨A2, c2, d2, rfl, hown2, hbel2, hc2, hm2, hd2⟩ := hret2.opened
  have hl2 : d2.length ≤ 1000008 := by rw [hd2.out, sealB_len]; omega
  have hbel12 := hbel1.trans hbel2
  have hbelw2 := hbel0.trans (hbel12.mono (by simp))
  have hbx2 := hbox.below hbel12 (by simp)
  have hne : ¬ d2 = b := by rw [hd2.out, hd1.out]; exact hbad'.out
  clear hret2
  go_wp2_with fail
  refine (equal_any _ F _ _ _ _ _ _ d2 b w2 hown2.rd (h.keep (Kp.of_below hbelw2 hF)) hc2 hnc (by omega) (by omega) (fun k hk => hk.1) (fun k hk => by have := hF k hk; have := hbelw2.size; omega)).mono ?_
  rintro e w3 ⟨rfl, hbel3⟩
  rw [decide_eq_false hne]
  have hbx3 := hbx2.below hbel3 hbx2.lt
  have hbelw3 := hbelw2.trans (hbel3.mono hbelw2.size)
  go_wp2_with (refine wpList_stBlk rfl 36 _ _ rfl w.heap.size 36 _ #[.int .u64 0, .int .u64 0, .int .i64 0, .int .i64 0] hbx3 rfl rfl info_head rfl rfl ?_; intro w4 hb3 hg3)
  refine bodyPost_ret (results_ctt rfl rfl hb3 Try.underlying36 rfl info_head) rfl ?_
  rw [hfin.out]
  exact inspPost_bad (hbelw3.grown hg3 hbelw3.size (by intro k hk; injection hk with hk; omega))

end Go.Proofs.Ytbcmpfdhpefdbaa

namespace Go.Proofs.Ytbcmpfdhpefdbaa
open Go.RowKit
attribute [local irreducible] Go.Calls

/-- the reader when k numbers have been read; number k -/
def stAt (st : RS) : Nat → RS
  | 0 => st
  | k + 1 => (rUint (stAt st k)).2
def vAt (st : RS) (k : Nat) : Nat := (rUint (stAt st k)).1
theorem stAt_left (st : RS) : ∀ k, rLeft (stAt st k) ≤ rLeft st
  | 0 => Nat.le_refl _
  | k + 1 => Nat.le_trans rUint_left (stAt_left st k)
def arrC (st : RS) (j : Nat) : Array Value := #[.int .u64 ((if 0 < j then vAt st 0 else 0 : Nat) : Int), .int .u64 ((if 1 < j then vAt st 1 else 0 : Nat) : Int), .int .u64 ((if 2 < j then vAt st 2 else 0 : Nat) : Int), .int .u64 ((if 3 < j then vAt st 3 else 0 : Nat) : Int)]
/-- what is answered of the numbers and the chunk -/
def insV (d : Int) (v0 v1 v2 v3 : Nat) (ch : List UInt8) : Ins := if d ≠ 0 ∨ v1 < 1 ∨ 4096 < v3 ∨ v3 ≤ v2 ∨ ch.length < 1 ∨ 28 < ch.length then Ins.bad 5 else ⟨v0, v1, v2, v3, ch, 0⟩
theorem insR_eq (st : RS) : insR st = insV (rDone (rBytes (stAt st 4)).2) (vAt st 0) (vAt st 1) (vAt st 2) (vAt st 3) (rBytes (stAt st 4)).1 := rfl

theorem Rdr.kept {T : TypeId} {w w' : World} {F : Nat → Prop} {g : Nat} {st : RS} (h : Rdr T w F g st) (hg : w'.heap[g]? = w.heap[g]?) (hk : Kp F w w') : Rdr T w' F g st := by
  obtain ⟨A, n, c, b, hb, h1, h2, h3⟩ := h
  refine ⟨A, n, c, b, hg.trans hb, h1, h2, ?_⟩
  cases st with
  | none => exact h3
  | some bs => exact ⟨h3.1, h3.2.keep hk⟩
theorem rTake_left (n : Nat) (st : RS) : rLeft (rTake n st).2 ≤ rLeft st := by
  cases st with
  | none => simp [rTake]
  | some bs =>
    by_cases hn : n ≤ bs.length
    · simp [rTake, hn, rLeft]
    · simp [rTake, hn, rLeft]
theorem rBytes_left {st : RS} : rLeft (rBytes st).2 ≤ rLeft st := by
  have h := @rUint_left st
  unfold rBytes
  split
  · simp [rLeft]
  · rename_i n rest e
    rw [e] at h
    exact Nat.le_trans (rTake_left _ _) h
theorem arrC_size (st : RS) (j : Nat) : (arrC st j).size = 4 := rfl
theorem arrC_set (st : RS) : ∀ j, j < 4 → (arrC st j).setIfInBounds j (.int .u64 (vAt st j : Nat)) = arrC st (j + 1)
  | 0, _ => rfl
  | 1, _ => rfl
  | 2, _ => rfl
  | 3, _ => rfl
  | j + 4, h => absurd h (by omega)

set_option maxRecDepth 100000 in
set_option maxHeartbeats 1000000 in
theorem insp_read (F : Nat → Prop) (bb o n c : Nat) (b : List UInt8) (w : World) (h : RdB w F (some ⟨bb, o, none⟩) n b) (hnc : n ≤ c) (hcm : c ≤ maxLen) (hl : b.length ≤ 1000000) (hF : ∀ k, F k → k < w.heap.size) (h8 : 8 ≤ b.length) (h82 : b[0]? = some 82)
    (hgood : sealB (b.take (b.length - 8)) = b) :
    Calls Try.prog 23 #[.slice (some ⟨bb, o, none⟩) n c] w (InspPost F w (insp b)) := by
  have hfin : insp b = if b.length = 8 then Ins.bad 5 else insR (some ((b.take (b.length - 8)).drop 1)) := by rw [insp, if_neg (by rintro (e | e); omega; exact e h82), if_neg (fun e => e hgood)]
  have hn := h.1
  have hbox : Blk (w.alloc (.cells #[.int .u64 0, .int .u64 0, .int .i64 0, .int .i64 0] 36)) w.heap.size 36 #[.int .u64 0, .int .u64 0, .int .i64 0, .int .i64 0] := Blk.new _ _ _
  have hbel0 : Below w.heap.size w (w.alloc (.cells #[.int .u64 0, .int .u64 0, .int .i64 0, .int .i64 0] 36)) := (Below.refl _ _).alloc (Nat.le_refl _) _
  have hnl : n ≤ 1000000 := by omega
  have h8' : 8 ≤ n := by omega
  obtain ⟨_, _, e, hFb, hc⟩ := h.at_ h82
  injection e with e
  injection e with e1 e2
  subst e1
  subst e2
  have hc' : (w.alloc (.cells #[.int .u64 0, .int .u64 0, .int .i64 0, .int .i64 0] 36)).cell? ⟨bb, o, none⟩ = some (.int .u8 82) := (World.cell?_alloc_lt _ _ _ (hF _ hFb)).trans (by simpa using hc)
  have hr0 := h.keep (Kp.of_below hbel0 hF)
  have hrt := RdB.mk_take hr0 (n := n - 8) (by omega)
  have e3 : b.take (n - 8) = b.take (b.length - 8) := by rw [hn]
  rw [e3] at hrt
  have hsl := sealB_len (b.take (b.length - 8))
  have hgood' := hid hgood
  have hfin' := hid hfin
  have hn' := hid hn
  clear hn h8 h82 hc hgood hfin e3
  go_enter Try.func23, Try.ntmps23
  go_wp2_with fail
  refine (clone_any F _ _ _ _ _ hrt (by rw [List.length_take]; omega) (fun k hk => by have := hF k hk; simp; omega)).mono ?_
  intro e w1 hret1
  obtain ⟨A1, c1, d1, rfl, hown1, hbel1, hc1, hm1, hd1⟩ := hret1.opened
  have hl1 : d1.length ≤ 1000000 := by rw [hd1.out, List.length_take]; omega
  clear hret1
  go_wp2_with fail
  refine (sealed_any _ A1 _ c1 d1 _ hown1 (by omega) hbel1.size).mono ?_
  intro e w2 hret2
  obtain ⟨A2, c2, d2, rfl, hown2, hbel2, hc2, hm2, hd2⟩ := hret2.opened
  have hl2 : d2.length ≤ 1000008 := by rw [hd2.out, sealB_len]; omega
  have hbel12 := hbel1.trans hbel2
  have hbelw2 := hbel0.trans (hbel12.mono (by simp))
  have hbx2 := hbox.below hbel12 (by simp)
  have heq := hid (show d2 = b by rw [hd2.out, hd1.out]; exact hgood'.out)
  clear hret2
  go_wp2_with fail
  refine (equal_any _ F _ _ _ _ _ _ d2 b w2 hown2.rd (h.keep (Kp.of_below hbelw2 hF)) hc2 hnc (by omega) (by omega) (fun k hk => hk.1) (fun k hk => by have := hF k hk; have := hbelw2.size; omega)).mono ?_
  rintro e w3 ⟨rfl, hbel3⟩
  rw [decide_eq_true heq.out]
  have hbx3 := hbx2.below hbel3 hbx2.lt
  have hbelw3 := hbelw2.trans (hbel3.mono hbelw2.size)
  clear hown1 hown2 hbel1 hbel2 hbel12 hbelw2 hbx2 hbel3 hc1 hc2 hm1 hm2 hd1 hd2 hl1 hl2 heq hbox hbel0
  by_cases hlen8 : n = 8
  · subst hlen8
    go_wp2_with (refine wpList_stBlk rfl 36 _ _ rfl w.heap.size 36 _ #[.int .u64 0, .int .u64 0, .int .i64 0, .int .i64 0] hbx3 rfl rfl info_head rfl rfl ?_; intro w4 hb3 hg3)
    refine bodyPost_ret (results_ctt rfl rfl hb3 Try.underlying36 rfl info_head) rfl ?_
    rw [hfin'.out, if_pos hn'.out.symm]
    exact inspPost_bad (hbelw3.grown hg3 hbelw3.size (by intro k hk; injection hk with hk; omega))
  · have h9 : 9 ≤ n := by omega
    have hn8 : ¬ n - 8 = 0 := by omega
    have hcz : ¬ c = 1 := by omega
    have h1n : (1 : Int) ≤ ((n - 8 : Nat) : Int) := by omega
    have h1n' : 1 ≤ n - 8 := by omega
    have hr3 := RdB.mk_take (h.keep (Kp.of_below hbelw3 hF)) (n := n - 8) (by omega)
    have hcut := hr3.cut (n := 1) (c := c) (by omega) (by omega)
    unfold cutA at hcut
    rw [if_neg hcz] at hcut
    simp only [Option.map_some, addr_add, Nat.mul_one] at hcut
    have hz3 := hbelw3.size
    have hz3' := hbx3.lt
    go_wp2_with fail
    refine (new_any F _ _ _ _ _ hcut (by rw [List.length_drop, List.length_take]; omega) (fun k hk => by have := hF k hk; omega)).mono ?_
    rintro e w4 ⟨g, rfl, hrdr, hbel4, hgl, hgs⟩
    have hbx4 := hbx3.below hbel4 hbx3.lt
    have hbelw4 := hbelw3.trans (hbel4.mono hz3)
    have hz4 := hbelw4.size
    obtain ⟨st, hst⟩ : ∃ st : RS, st = some ((b.take (n - 8)).drop 1) := ⟨_, rfl⟩
    rw [← hst] at hrdr
    have hstl : rLeft st ≤ 1000000 := by rw [hst]; simp only [rLeft]; rw [List.length_drop, List.length_take]; omega
    have hst' := hid hst
    clear hst hcut hr3 hbel4 hbx3 hbelw3
    have hza := Blk.new w4 88 #[.int .u64 0, .int .u64 0, .int .u64 0, .int .u64 0]
    have hbela : Below w4.heap.size w4 (w4.alloc (.cells #[.int .u64 0, .int .u64 0, .int .u64 0, .int .u64 0] 88)) := (Below.refl _ _).alloc (Nat.le_refl _) _
    have hrdr5 : Rdr 107 (w4.alloc (.cells #[.int .u64 0, .int .u64 0, .int .u64 0, .int .u64 0] 88)) (fun k => w3.heap.size ≤ k ∧ k < g) g st := hrdr.alloc (fun k hk => by omega) _
    go_wp2_with fail
    go_loopw [40] (fun i wr => ∃ j : Nat, i = .int .i64 (j : Int) ∧ j ≤ 4 ∧ Rdr 107 wr (fun k => w3.heap.size ≤ k ∧ k < g) g (stAt st j) ∧ Blk wr w4.heap.size 88 (arrC st j) ∧ Blk wr w.heap.size 36 #[.int .u64 0, .int .u64 0, .int .i64 0, .int .i64 0] ∧ Below w.heap.size w wr) (fun i _ => 4 - (intOf i).toNat)
    case atStart => exact ⟨0, rfl, by omega, hrdr5, hza, hbx4.alloc _, hbelw4.alloc hz4 _⟩
    case round =>
      clear hza hbela hrdr5 hbx4 hbelw4 hrdr
      obtain ⟨j, rfl, hj, hrdr, hbA, hbx, hbel⟩ := hrel
      have hlj := stAt_left st j
      by_cases hj4 : j < 4
      · go_wp2_with fail
        refine (uint_any _ g (stAt st j) wr hrdr (by omega) (fun k hk => ⟨by have := hbx.lt; have := hbA.lt; omega, by omega⟩)).mono ?_
        rintro e w5 ⟨rfl, hrdr5, hg5⟩
        have hbA5 := hbA.grown hg5 (by intro e; injection e; omega)
        have hbx5 := hbx.grown hg5 (by intro e; injection e; omega)
        have hcx : w5.cell? ⟨w4.heap.size, j, none⟩ = some ((arrC st j)[j]'(by rw [arrC_size]; exact hj4)) := by rw [hbA5.cell, Array.getElem?_eq_getElem]
        have hfx := hbA5.frozen j
        have hjj : (j : Int) < 4 := by omega
        have hset := hid (arrC_set st j hj4)
        go_wp2
        go_roundw
        case rel =>
          refine ⟨j + 1, by go_num, by omega, ?_, ?_, hbx5.far (by simp only; omega) _, (hbel.grown hg5 hbel.size (by intro k hk; injection hk with hk; omega)).setCell (by simp only; omega) _⟩
          · exact hrdr5.kept (Below.heap_setCell _ _ _ _ (by simp only; omega)) (fun k hk => Below.heap_setCell _ _ _ _ (by simp only; omega))
          · have := hbA5.set_ j (.int .u64 (vAt st j : Nat))
            rw [hset.out] at this
            exact this
        case measure => simp [intOf]; omega
      · have hj4 : j = 4 := by omega
        subst hj4
        go_wp2_with fail
        refine (bytes_any _ g (stAt st 4) wr hrdr (by omega) (fun k hk => ⟨by have := hbx.lt; have := hbA.lt; omega, by omega⟩)).mono ?_
        rintro e w5 ⟨A5, n5, c5, rfl, hnc5, hcm5, hrd5, hrdr5, hg5⟩
        have hbA5 := hbA.grown hg5 (by intro e; injection e; omega)
        have hbx5 := hbx.grown hg5 (by intro e; injection e; omega)
        have hbel5 := hbel.grown hg5 hbel.size (by intro k hk; injection hk with hk; omega)
        have hbl := rBytes_len (stAt st 4)
        obtain ⟨ch, hch⟩ : ∃ ch, ch = (rBytes (stAt st 4)).1 := ⟨_, rfl⟩
        obtain ⟨s5, hs5⟩ : ∃ s5, s5 = (rBytes (stAt st 4)).2 := ⟨_, rfl⟩
        rw [← hch] at hrd5 hbl
        rw [← hs5] at hrdr5
        have hs5l : rLeft s5 ≤ 1000000 := by rw [hs5]; exact Nat.le_trans rBytes_left (by omega)
        rw [← hs5]
        have hch' := hid hch
        have hs5' := hid hs5
        clear hch hs5
        go_wp2_with fail
        refine (done_any _ g s5 w5 hrdr5 (by omega)).mono ?_
        rintro e w6 ⟨rfl, rfl⟩
        obtain ⟨v0, hv0⟩ : ∃ v, v = vAt st 0 := ⟨_, rfl⟩
        obtain ⟨v1, hv1⟩ : ∃ v, v = vAt st 1 := ⟨_, rfl⟩
        obtain ⟨v2, hv2⟩ : ∃ v, v = vAt st 2 := ⟨_, rfl⟩
        obtain ⟨v3, hv3⟩ : ∃ v, v = vAt st 3 := ⟨_, rfl⟩
        have a0 : w5.cell? ⟨w4.heap.size, 0, none⟩ = some (.int .u64 (v0 : Int)) := by rw [hv0]; exact hbA5.cell 0
        have a1 : w5.cell? ⟨w4.heap.size, 1, none⟩ = some (.int .u64 (v1 : Int)) := by rw [hv1]; exact hbA5.cell 1
        have a2 : w5.cell? ⟨w4.heap.size, 2, none⟩ = some (.int .u64 (v2 : Int)) := by rw [hv2]; exact hbA5.cell 2
        have a3 : w5.cell? ⟨w4.heap.size, 3, none⟩ = some (.int .u64 (v3 : Int)) := by rw [hv3]; exact hbA5.cell 3
        have hv0b : v0 < 18446744073709551616 := by rw [hv0]; exact rUint_bd _
        obtain ⟨d, hd⟩ : ∃ d, d = rDone s5 := ⟨_, rfl⟩
        rw [← hd]
        have hans : insp b = insV d v0 v1 v2 v3 ch := by
          rw [hfin'.out, if_neg (by have := hn'.out; omega), insR_eq, hd, hs5'.out, hv0, hv1, hv2, hv3, hch'.out, hst'.out, ← hn'.out]
        have hlch := hrd5.1
        have hz5 := hbA5.lt
        have hans' := hid hans
        have hlch' := hid hlch
        clear hv0 hv1 hv2 hv3 hd hans hlch hbA5 hbA hbx hrdr hrdr5 hg5
        have hbadF : Hid (insp b = Ins.bad 5 → ∀ w', Below w.heap.size w w' → InspPost F w (insp b) (.returned (.tuple #[.agg #[.int .u64 0, .int .u64 0, .int .i64 0, .int .i64 0], .slice none 0 0, .int .i64 5])) w') := fun e w' hb => by rw [e]; exact inspPost_bad hb
        by_cases k0 : d = 0
        · subst k0
          by_cases k1 : v1 < 1
          · have x1 : v1 = 0 := by omega
            have x2 : (v1 : Int) = 0 := by omega
            go_wp2_with (refine wpList_stBlk rfl 36 _ _ rfl w.heap.size 36 _ #[.int .u64 0, .int .u64 0, .int .i64 0, .int .i64 0] hbx5 rfl rfl info_head rfl rfl ?_; intro w7 hb7 hg7)
            refine bodyPost_ret (results_ctt rfl rfl hb7 Try.underlying36 rfl info_head) rfl ?_
            exact hbadF.out (by rw [hans'.out, insV, if_pos (.inr (.inl (by omega)))]) _ (hbel5.grown hg7 hbel5.size (by intro k hk; injection hk with hk; omega))
          · have x1 : ¬ v1 = 0 := by omega
            have x2 : ¬ (v1 : Int) = 0 := by omega
            have x3 : ¬ (v1 : Int) < 1 := by omega
            have x4 : (1 : Int) ≤ v1 := by omega
            have x5 : 1 ≤ v1 := by omega
            have x6 : 0 < v1 := by omega
            by_cases k3 : 4096 < v3
            · have y1 : (4096 : Int) < v3 := by omega
              go_wp2_with (refine wpList_stBlk rfl 36 _ _ rfl w.heap.size 36 _ #[.int .u64 0, .int .u64 0, .int .i64 0, .int .i64 0] hbx5 rfl rfl info_head rfl rfl ?_; intro w7 hb7 hg7)
              refine bodyPost_ret (results_ctt rfl rfl hb7 Try.underlying36 rfl info_head) rfl ?_
              exact hbadF.out (by rw [hans'.out, insV, if_pos (.inr (.inr (.inl (by omega))))]) _ (hbel5.grown hg7 hbel5.size (by intro k hk; injection hk with hk; omega))
            · have y1 : ¬ (4096 : Int) < v3 := by omega
              have y2 : (v3 : Int) ≤ 4096 := by omega
              have y3 : v3 ≤ 4096 := by omega
              by_cases k2 : v3 ≤ v2
              · have z1 : (v3 : Int) ≤ v2 := by omega
                go_wp2_with (refine wpList_stBlk rfl 36 _ _ rfl w.heap.size 36 _ #[.int .u64 0, .int .u64 0, .int .i64 0, .int .i64 0] hbx5 rfl rfl info_head rfl rfl ?_; intro w7 hb7 hg7)
                refine bodyPost_ret (results_ctt rfl rfl hb7 Try.underlying36 rfl info_head) rfl ?_
                exact hbadF.out (by rw [hans'.out, insV, if_pos (.inr (.inr (.inr (.inl (by omega)))))]) _ (hbel5.grown hg7 hbel5.size (by intro k hk; injection hk with hk; omega))
              · have z1 : ¬ (v3 : Int) ≤ v2 := by omega
                have z2 : (v2 : Int) < v3 := by omega
                have z3 : v2 < v3 := by omega
                by_cases k4 : n5 < 1
                · have t1 : n5 = 0 := by omega
                  have t2 : (n5 : Int) = 0 := by omega
                  go_wp2_with (refine wpList_stBlk rfl 36 _ _ rfl w.heap.size 36 _ #[.int .u64 0, .int .u64 0, .int .i64 0, .int .i64 0] hbx5 rfl rfl info_head rfl rfl ?_; intro w7 hb7 hg7)
                  refine bodyPost_ret (results_ctt rfl rfl hb7 Try.underlying36 rfl info_head) rfl ?_
                  exact hbadF.out (by rw [hans'.out, insV, if_pos (.inr (.inr (.inr (.inr (.inl (by rw [← hlch'.out]; omega))))))]) _ (hbel5.grown hg7 hbel5.size (by intro k hk; injection hk with hk; omega))
                · have t1 : ¬ n5 = 0 := by omega
                  have t2 : ¬ (n5 : Int) = 0 := by omega
                  have t3 : ¬ (n5 : Int) < 1 := by omega
                  have t4 : (1 : Int) ≤ n5 := by omega
                  have t5 : 1 ≤ n5 := by omega
                  have t6 : 0 < n5 := by omega
                  by_cases k5 : 28 < n5
                  · have s1 : (28 : Int) < n5 := by omega
                    go_wp2_with (refine wpList_stBlk rfl 36 _ _ rfl w.heap.size 36 _ #[.int .u64 0, .int .u64 0, .int .i64 0, .int .i64 0] hbx5 rfl rfl info_head rfl rfl ?_; intro w7 hb7 hg7)
                    refine bodyPost_ret (results_ctt rfl rfl hb7 Try.underlying36 rfl info_head) rfl ?_
                    exact hbadF.out (by rw [hans'.out, insV, if_pos (.inr (.inr (.inr (.inr (.inr (by rw [← hlch'.out]; omega))))))]) _ (hbel5.grown hg7 hbel5.size (by intro k hk; injection hk with hk; omega))
                  · have s1 : ¬ (28 : Int) < n5 := by omega
                    have s2 : (n5 : Int) ≤ 28 := by omega
                    have s3 : n5 ≤ 28 := by omega
                    have e1 : IntKind.i64.wrap (v2 : Int) = (v2 : Int) := by rw [IntKind.wrap_i64]; omega
                    have e2 : IntKind.i64.wrap (v3 : Int) = (v3 : Int) := by rw [IntKind.wrap_i64]; omega
                    go_wp2_with (refine wpList_stBlk rfl 36 _ _ rfl w.heap.size 36 _ #[.int .u64 (v0 : Int), .int .u64 (v1 : Int), .int .i64 (v2 : Int), .int .i64 (v3 : Int)] hbx5 rfl rfl info_head rfl rfl ?_; intro w7 hb7 hg7)
                    refine bodyPost_ret (results_ctt rfl rfl hb7 Try.underlying36 rfl info_head) rfl ?_
                    have hgd : insp b = ⟨v0, v1, v2, v3, ch, 0⟩ := by rw [hans'.out, insV, if_neg (by rw [← hlch'.out]; omega)]
                    rw [hgd]
                    refine ⟨A5, n5, c5, rfl, hnc5, hcm5, (hrd5.keep (Kp.of_grown hg7 (fun k hk => ⟨by have := hbx5.lt; omega, by intro e; injection e; omega⟩))).more (fun k hk => ⟨by have := hg7.size; omega, .inr (by omega)⟩), hbel5.grown hg7 hbel5.size (by intro k hk; injection hk with hk; omega)⟩
        · go_wp2_with (refine wpList_stBlk rfl 36 _ _ rfl w.heap.size 36 _ #[.int .u64 0, .int .u64 0, .int .i64 0, .int .i64 0] hbx5 rfl rfl info_head rfl rfl ?_; intro w7 hb7 hg7)
          refine bodyPost_ret (results_ctt rfl rfl hb7 Try.underlying36 rfl info_head) rfl ?_
          exact hbadF.out (by rw [hans'.out, insV, if_pos (.inl k0)]) _ (hbel5.grown hg7 hbel5.size (by intro k hk; injection hk with hk; omega))

theorem insp_any (F : Nat → Prop) (A : Option Addr) (n c : Nat) (b : List UInt8) (w : World) (h : RdB w F A n b) (hnc : n ≤ c) (hcm : c ≤ maxLen) (hl : b.length ≤ 1000000) (hF : ∀ k, F k → k < w.heap.size) :
    Calls Try.prog 23 #[.slice A n c] w (InspPost F w (insp b)) := by
  by_cases hbad : b.length < 8 ∨ b[0]? ≠ some 82
  · exact insp_form F A n c b w h hnc hl hF hbad
  · have h8 : 8 ≤ b.length := by omega
    have h82 : b[0]? = some 82 := Classical.not_not.1 (fun e => hbad (.inr e))
    obtain ⟨bb, o, rfl, hFb, hc⟩ := h.at_ h82
    by_cases hs : sealB (b.take (b.length - 8)) = b
    · exact insp_read F bb o n c b w h hnc hcm hl hF h8 h82 hs
    · exact insp_sum F bb o n c b w h hnc hcm hl hF h8 h82 hs

end Go.Proofs.Ytbcmpfdhpefdbaa
