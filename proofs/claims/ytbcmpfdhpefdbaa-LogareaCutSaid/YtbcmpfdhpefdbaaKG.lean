/- The contracts of the reference's Sector and Encode. The contract of the reference's Encode. -/
import Derived.Test.YtbcmpfdhpefdbaaKF
import Derived.Test.YtbcmpfdhpefdbaaKE
set_option linter.unusedVariables false
set_option linter.unusedSimpArgs false
namespace Go.Proofs.Ytbcmpfdhpefdbaa
open Go.RowKit
attribute [local irreducible] Go.Calls

theorem sector_len {gen seq part parts : Nat} {chunk : List UInt8} (h1 : gen < 18446744073709551616) (h2 : seq < 18446744073709551616) (h3 : part < 18446744073709551616) (h4 : parts < 18446744073709551616) : (sectorH gen seq part parts).length ≤ 41 := by
  have := enc_len10 h1
  have := enc_len10 h2
  have := enc_len10 h3
  have := enc_len10 h4
  simp only [sectorH, List.length_cons, List.length_append]
  omega

set_option maxRecDepth 100000 in
set_option maxHeartbeats 1000000 in
theorem sector27_any (F : Nat → Prop) (gen seq part parts : Nat) (A : Option Addr) (k c : Nat) (ch : List UInt8) (w : World) (h : RdB w F A k ch) (hkc : k ≤ c) (hl : ch.length ≤ 10000) (hF : ∀ k, F k → k < w.heap.size)
    (hg : gen < 18446744073709551616) (hs : seq < 18446744073709551616) (hp : part < 1000000000) (hps : parts < 1000000000) :
    Calls Try.prog 30 #[.agg #[.int .u64 (gen : Int), .int .u64 (seq : Int), .int .i64 (part : Int), .int .i64 (parts : Int)], .slice A k c] w (RetB w.heap.size w (sectorB gen seq part parts ch)) := by
  have eg := enc_len10 hg
  have es := enc_len10 hs
  have ep := enc_len10 (n := part) (by omega)
  have eps := enc_len10 (n := parts) (by omega)
  have hbox : Blk (w.alloc (.cells #[.int .u64 (gen : Int), .int .u64 (seq : Int), .int .i64 (part : Int), .int .i64 (parts : Int)] 39)) w.heap.size 39 #[.int .u64 (gen : Int), .int .u64 (seq : Int), .int .i64 (part : Int), .int .i64 (parts : Int)] := Blk.new _ _ _
  have hsz0 : (w.alloc (.cells #[.int .u64 (gen : Int), .int .u64 (seq : Int), .int .i64 (part : Int), .int .i64 (parts : Int)] 39)).heap.size = w.heap.size + 1 := by simp
  have hbel0 : Below w.heap.size w (w.alloc (.cells #[.int .u64 (gen : Int), .int .u64 (seq : Int), .int .i64 (part : Int), .int .i64 (parts : Int)] 39)) := (Below.refl _ _).alloc (Nat.le_refl _) _
  have hr1 := rdB_one (w.alloc (.cells #[.int .u64 (gen : Int), .int .u64 (seq : Int), .int .i64 (part : Int), .int .i64 (parts : Int)] 39)) 82 (by decide)
  rw [hsz0] at hr1
  have hz : UInt8.ofNat 82 = 82 := rfl
  rw [hz] at hr1
  clear hz
  have hr1' : RdB (w.alloc (.cells #[.int .u64 (gen : Int), .int .u64 (seq : Int), .int .i64 (part : Int), .int .i64 (parts : Int)] 39) |>.alloc (.cells #[.int .u8 82] 5)) (fun k => k = w.heap.size + 1) (some ⟨w.heap.size + 1, 0, none⟩) 1 [82] := hr1
  clear hr1
  have q0 := fun (w' : World) (hh : Blk w' w.heap.size 39 #[.int .u64 (gen : Int), .int .u64 (seq : Int), .int .i64 (part : Int), .int .i64 (parts : Int)]) => (show w'.cell? ⟨w.heap.size, 0, none⟩ = some (.int .u64 (gen : Int)) from hh.cell 0)
  have q1 := fun (w' : World) (hh : Blk w' w.heap.size 39 #[.int .u64 (gen : Int), .int .u64 (seq : Int), .int .i64 (part : Int), .int .i64 (parts : Int)]) => (show w'.cell? ⟨w.heap.size, 1, none⟩ = some (.int .u64 (seq : Int)) from hh.cell 1)
  have q2 := fun (w' : World) (hh : Blk w' w.heap.size 39 #[.int .u64 (gen : Int), .int .u64 (seq : Int), .int .i64 (part : Int), .int .i64 (parts : Int)]) => (show w'.cell? ⟨w.heap.size, 2, none⟩ = some (.int .i64 (part : Int)) from hh.cell 2)
  have q3 := fun (w' : World) (hh : Blk w' w.heap.size 39 #[.int .u64 (gen : Int), .int .u64 (seq : Int), .int .i64 (part : Int), .int .i64 (parts : Int)]) => (show w'.cell? ⟨w.heap.size, 3, none⟩ = some (.int .i64 (parts : Int)) from hh.cell 3)
  have ew1 : IntKind.u64.wrap (part : Int) = (part : Int) := by rw [IntKind.wrap_u64]; omega
  have ew2 : IntKind.u64.wrap (parts : Int) = (parts : Int) := by rw [IntKind.wrap_u64]; omega
  go_enter Try.func30, Try.ntmps30
  go_wp2_with fail
  go_region_held3 (fun w' => Blk w' w.heap.size 39 #[.int .u64 (gen : Int), .int .u64 (seq : Int), .int .i64 (part : Int), .int .i64 (parts : Int)])
    (first | exact hbox.drew | exact (hbox.alloc _).drew | exact (hbox.alloc _).drew.below hbel1 (by simp; omega) | exact ((hbox.alloc _).drew.below hbel1 (by simp; omega)).below hbel2 (by have := hbel1.size; simp at this; omega))
    (first | (go_at_call 72; refine (appendUint9_any _ _ _ _ _ gen _ hr1'.drew (by decide) (fun q hq => by rw [hq]; simp <;> omega) hg).mono ?_; intro e w1 hret1; obtain ⟨A1, c1, d1, rfl, hown1, hbel1, hc1, hm1, hd1⟩ := hret1.opened; have hl1 : d1.length ≤ 11 := (by rw [hd1.out, List.length_append]; simp only [List.length_cons, List.length_nil]; omega)) | (go_at_call 72; refine (appendUint9_any _ A1 _ c1 d1 seq _ hown1.rd (by omega) (fun q hq => hq.1) hs).mono ?_; intro e w2 hret2; obtain ⟨A2, c2, d2, rfl, hown2, hbel2, hc2, hm2, hd2⟩ := hret2.opened; have hl2 : d2.length ≤ 21 := (by rw [hd2.out, List.length_append]; omega)))
  have hbx2 := ((hbox.alloc (.cells #[.int .u8 82] 5)).drew.below hbel1 (by simp; omega)).below hbel2 (by have := hbel1.size; simp at this; omega)
  have hz2 : w.heap.size < w2.heap.size := hbx2.lt
  have hbelw2 : Below w.heap.size w w2 := (((hbel0.alloc (by simp) _).drew).trans (hbel1.mono (by simp; omega))).trans (hbel2.mono (by have := hbel1.size; simp at this; omega))
  clear hret1 hret2
  go_wp2_with fail
  go_region_held3 (fun w' => Blk w' w.heap.size 39 #[.int .u64 (gen : Int), .int .u64 (seq : Int), .int .i64 (part : Int), .int .i64 (parts : Int)])
    (first | exact hbx2.drew | exact hbx2.drew.below hbel3 hz2 | exact (hbx2.drew.below hbel3 hz2).below hbel4 (by have := hbel3.size; simp at this; omega))
    (first | (go_at_call 72; refine (appendUint9_any _ A2 _ c2 d2 part _ hown2.rd.drew (by omega) (fun q hq => by have := hq.1; simp; omega) (by omega)).mono ?_; intro e w3 hret3; obtain ⟨A3, c3, d3, rfl, hown3, hbel3, hc3, hm3, hd3⟩ := hret3.opened; have hl3 : d3.length ≤ 31 := (by rw [hd3.out, List.length_append]; omega)) | (go_at_call 72; refine (appendUint9_any _ A3 _ c3 d3 parts _ hown3.rd (by omega) (fun q hq => hq.1) (by omega)).mono ?_; intro e w4 hret4; obtain ⟨A4, c4, d4, rfl, hown4, hbel4, hc4, hm4, hd4⟩ := hret4.opened; have hl4 : d4.length ≤ 41 := (by rw [hd4.out, List.length_append]; omega)))
  have hbelw4 : Below w.heap.size w w4 := ((hbelw2.drew).trans (hbel3.mono (by simp; omega))).trans (hbel4.mono (by have := hbel3.size; simp at this; omega))
  have hd4' := hid (show d4 = sectorH gen seq part parts by rw [hd4.out, hd3.out, hd2.out, hd1.out]; simp [sectorH])
  clear q0 q1 q2 q3 ew1 ew2 hret3 hret4
  go_wp2_with fail
  refine (appendBytes9_any _ A4 _ c4 d4 F A k c ch _ hown4.rd (h.keep (Kp.of_below hbelw4 hF)) (by omega) (fun q hq => hq.1) (fun q hq => by have := hF q hq; have := hbelw4.size; omega)).mono ?_
  intro e w5 hret5
  obtain ⟨A5, c5, d5, rfl, hown5, hbel5, hc5, hm5, hd5⟩ := hret5.opened
  have hl5 : d5.length ≤ 20000 := by rw [hd5.out, List.length_append, List.length_append]; have := enc_len10 (n := ch.length) (by omega); omega
  have hbelw5 := hbelw4.trans (hbel5.mono hbelw4.size)
  clear hret5
  go_wp2_with fail
  refine (sealed27_any _ A5 _ c5 d5 _ hown5.rd hc5 (by omega) (fun q hq => hq.1)).mono ?_
  rintro e w6 ⟨v6, rfl, hown6, hbel6⟩
  go_wp2
  go_ret
  refine ⟨v6, rfl, ?_, hbelw5.trans (hbel6.mono hbelw5.size)⟩
  have := hown6.lower (base := w.heap.size) hbelw5.size
  rw [hd5.out, hd4'.out] at this
  exact this

end Go.Proofs.Ytbcmpfdhpefdbaa

namespace Go.Proofs.Ytbcmpfdhpefdbaa
open Go.RowKit
attribute [local irreducible] Go.Calls

/-- what Encode answers -/
def EncPost (w : World) (r : Rec) (e : Ending) (w' : World) : Prop :=
  ∃ v, e = .returned (.tuple #[v, .int .i64 (encE r)]) ∧ OwnS w.heap.size (fun _ => False) w' v (encP r) ∧ Below w.heap.size w w'

theorem info_rec : (Try.prog.info? 27).map (·.size) = some 5 := by kernel_rfl

theorem encode27_bad (F : Nat → Prop) (r : Rec) (Aw : Option Addr) (nw cw : Nat) (Am : Option Addr) (nm cm : Nat) (An : Option Addr) (nn cn : Nat) (w : World) (h : RecIn w F r Aw nw cw Am nm cm An nn cn) (hF : ∀ k, F k → k < w.heap.size) (hvld : r.vld = false) :
    Calls Try.prog 19 #[.agg (recCells r Aw nw cw Am nm cm An nn cn)] w (EncPost w r) := by
  have hbox : Blk (w.alloc (.cells (recCells r Aw nw cw Am nm cm An nn cn) 27)) w.heap.size 27 (recCells r Aw nw cw Am nm cm An nn cn) := Blk.new _ _ _
  have hbel0 : Below w.heap.size w (w.alloc (.cells (recCells r Aw nw cw Am nm cm An nn cn) 27)) := (Below.refl _ _).alloc (Nat.le_refl _) _
  have hfin := hid (show EncPost w r = EncPost w r from rfl)
  have hv := hid hvld
  clear hvld
  go_enter Try.func19, Try.ntmps19
  go_wp2_with (refine wpList_ldBlk rfl 27 _ rfl w.heap.size 27 _ hbox _ rfl Try.underlying27 rfl info_rec ?_)
  refine (valid27_any F r Aw nw cw Am nm cm An nn cn _ (h.keep (Kp.of_below hbel0 hF)) (fun k hk => by have := hF k hk; simp; omega)).mono ?_
  rintro e w1 ⟨rfl, hbel1⟩
  rw [hv.out]
  go_wp2
  go_ret2
  refine ⟨_, by rw [encE, hv.out]; rfl, ?_, hbel0.trans (hbel1.mono (by simp))⟩
  rw [encP, hv.out]
  exact OwnS.nil_

theorem chunkAt_len (p : List UInt8) (i : Nat) : (chunkAt p i).length = min 28 (p.length - 28 * i) := by simp [chunkAt]
theorem chunkAt_take (p : List UInt8) (i e : Nat) (he : e = min (28 * (i + 1)) p.length) : (p.drop (28 * i)).take (e - 28 * i) = chunkAt p i := by
  subst he
  unfold chunkAt
  rw [Nat.min_def]
  split
  · congr 1; omega
  · rw [List.take_of_length_le (by rw [List.length_drop]; omega), List.take_of_length_le (by rw [List.length_drop]; omega)]

set_option maxRecDepth 100000 in
set_option maxHeartbeats 1000000 in
theorem encode27_good (F : Nat → Prop) (r : Rec) (Aw : Option Addr) (nw cw : Nat) (Am : Option Addr) (nm cm : Nat) (An : Option Addr) (nn cn : Nat) (w : World) (h : RecIn w F r Aw nw cw Am nm cm An nn cn) (hF : ∀ k, F k → k < w.heap.size) (hvld : r.vld = true) :
    Calls Try.prog 19 #[.agg (recCells r Aw nw cw Am nm cm An nn cn)] w (EncPost w r) := by
  have hpl := payl_len h.ok (Rec.V.of hvld)
  have hgen := h.ok.gen
  have hseq := h.ok.seq
  unfold U64 at hgen hseq
  have hbox : Blk (w.alloc (.cells (recCells r Aw nw cw Am nm cm An nn cn) 27)) w.heap.size 27 (recCells r Aw nw cw Am nm cm An nn cn) := Blk.new _ _ _
  have hbel0 : Below w.heap.size w (w.alloc (.cells (recCells r Aw nw cw Am nm cm An nn cn) 27)) := (Below.refl _ _).alloc (Nat.le_refl _) _
  have hv := hid hvld
  clear hvld
  go_enter Try.func19, Try.ntmps19
  go_wp2_with (refine wpList_ldBlk rfl 27 _ rfl w.heap.size 27 _ hbox _ rfl Try.underlying27 rfl info_rec ?_)
  refine (valid27_any F r Aw nw cw Am nm cm An nn cn _ (h.keep (Kp.of_below hbel0 hF)) (fun k hk => by have := hF k hk; simp; omega)).mono ?_
  rintro e w1 ⟨rfl, hbel1⟩
  rw [hv.out]
  have hbx1 := hbox.below hbel1 (by simp)
  have hbelw1 := hbel0.trans (hbel1.mono (by simp))
  clear hbel1 hbel0 hbox
  go_wp2_with (refine wpList_ldBlk rfl 27 _ rfl w.heap.size 27 _ hbx1 _ rfl Try.underlying27 rfl info_rec ?_)
  refine (payload27_any F r Aw nw cw Am nm cm An nn cn _ (h.keep (Kp.of_below hbelw1 hF)) (fun k hk => by have := hF k hk; have := hbelw1.size; omega) hv.out).mono ?_
  intro e w2 hret2
  obtain ⟨A2, c2, d2, rfl, hown2, hbel2, hc2, hm2, hd2⟩ := hret2.opened
  have hl2 : d2.length ≤ 5400 := by rw [hd2.out]; exact hpl
  have hbx2 := hbx1.below hbel2 hbx1.lt
  have hbelw2 := hbelw1.trans (hbel2.mono hbelw1.size)
  have hrd2 := hown2.rd
  clear hret2 hbel2 hbelw1 hbx1 hown2 hpl
  unfold recCells at hbx2
  have hz2 := hbx2.lt
  obtain ⟨m, hm⟩ : ∃ m, m = nChunks d2.length := ⟨_, rfl⟩
  have hmb : 28 * m ≤ d2.length + 27 ∧ d2.length ≤ 28 * m := by rw [hm]; unfold nChunks; omega
  have hquo : ((d2.length : Int) + 27).tdiv 28 = (m : Int) := by
    rw [Int.tdiv_eq_ediv_of_nonneg (by omega), hm]; unfold nChunks; omega
  have hm' := hid hm
  clear hm
  go_wp2_with fail
  go_loopw [6, 7] (fun v i wr => ∃ (j : Nat), i = .int .i64 (j : Int) ∧ j ≤ m ∧ OwnS w2.heap.size (fun _ => False) wr v (secTo r d2 j) ∧ Below w2.heap.size w2 wr) (fun _ i _ => m - (intOf i).toNat)
  case atStart => exact ⟨0, rfl, by omega, OwnS.nil_, Below.refl _ _⟩
  case round =>
    obtain ⟨j, rfl, hj, hown, hbel⟩ := hrel
    have hbx := hbx2.below hbel hz2
    have hzr := hbel.size
    by_cases hjm : j < m
    · obtain ⟨b, o, rfl, hFb, hc⟩ := hrd2.2.2 (by omega)
      have hrd := hrd2.keep (Kp.of_below hbel (fun k hk => hk.1))
      obtain ⟨q, hq⟩ : ∃ q, q = 28 * j := ⟨_, rfl⟩
      obtain ⟨ne, hne⟩ : ∃ ne, ne = min (28 * (j + 1)) d2.length := ⟨_, rfl⟩
      have hq1 : (28 : Int) * (j : Int) = (q : Int) := by omega
      have hb0 : (q : Int) ≤ (ne : Int) := by omega
      have hb1 : (ne : Int) ≤ (d2.length : Int) := by omega
      have hb2 : (ne : Int) ≤ (c2 : Int) := by omega
      have ewq : IntKind.i64.wrap (q : Int) = (q : Int) := by rw [IntKind.wrap_i64]; omega
      have hb3 : q ≤ ne := by omega
      have hb4 : ne ≤ c2 := by omega
      have hcne : ¬ c2 = q := by omega
      have hcut := hrd.cut (n := q) (c := c2) (by omega) hc2
      clear hc
      unfold cutA at hcut
      rw [if_neg hcne] at hcut
      simp only [Option.map_some, addr_add, Nat.mul_one] at hcut
      have hcut2 := hcut.take_ (n := ne - q) (by omega)
      rw [hq, chunkAt_take d2 j ne hne, ← hq] at hcut2
      have hcl := chunkAt_len d2 j
      have q0 := fun (w' : World) (hh : Blk w' w.heap.size 27 #[.int .u64 (r.gen : Int), .int .u64 (r.seq : Int), .slice Aw nw cw, .slice Am nm cm, .slice An nn cn]) => (show w'.cell? ⟨w.heap.size, 0, none⟩ = some (.int .u64 (r.gen : Int)) from hh.cell 0)
      have q1 := fun (w' : World) (hh : Blk w' w.heap.size 27 #[.int .u64 (r.gen : Int), .int .u64 (r.seq : Int), .slice Aw nw cw, .slice Am nm cm, .slice An nn cn]) => (show w'.cell? ⟨w.heap.size, 1, none⟩ = some (.int .u64 (r.seq : Int)) from hh.cell 1)
      have hnx := hid (secTo_succ r d2 j)
      clear hcut
      obtain ⟨A6, c6, rfl, hc6, hm6⟩ := hown.form
      rw [secTo_len] at hown hc6 ⊢
      have hownlt := hown.lt
      have hq2 := hid hq
      have hne3 := hid hne
      by_cases hend : d2.length < 28 * (j + 1)
      · have hne2 : ne = d2.length := by omega
        clear hq hne
        subst hne2
        go_wp2_with fail
        go_region_held3 (fun w' => Blk w' w.heap.size 27 #[.int .u64 (r.gen : Int), .int .u64 (r.seq : Int), .slice Aw nw cw, .slice Am nm cm, .slice An nn cn])
          (first | exact hbx.drew | exact hbx.drew.below hbel4 hbx.lt | exact (hbx.drew.below hbel4 hbx.lt).alloc _ | exact ((hbx.drew.below hbel4 hbx.lt).alloc _).grown hg7 (by simp only [ne_eq]; intro e; exact absurd (hownlt _ e.symm).1 (by omega)))
          (first | (go_at_call 30; refine (sector27_any _ r.gen r.seq j m _ _ _ _ _ hcut2.drew (by omega) (by rw [hcl]; omega) (fun k hk => by have := hk.1; simp; omega) hgen hseq (by omega) (by omega)).mono ?_; intro e w4 hret4; obtain ⟨A4, c4, d4, rfl, hown4, hbel4, hc4, hm4, hd4⟩ := hret4.opened) | (refine step_apS (w0 := w4) (by rfl) _ _ (by rfl) w2.heap.size (fun _ => False) (.slice A6 j c6) (secTo r d2 j) (by rfl) (OwnS.below (w := wr.drew) hown hbel4) A4 _ c4 1 w4.heap.size d4 (by rfl) (Blk.new _ _ _) (by simp) (fun k hk => Below.heap_alloc w4 _ k hk) (hown4.rd.more (fun k hk => ⟨hk.1, .inr (by have := hk.2; simp at this; omega), fun e => by have := (hownlt _ e).2; have := hk.2; simp at this; omega⟩)) hc4 hm4 (by rw [secTo_len]; omega) (by have := hbel4.size; simp at *; omega) ?_; intro v7 w7 hown7 hg7 hat7))
        go_wp2
        go_roundw
        case rel =>
          have hb47 : Below w2.heap.size w4 w7 := ((Below.refl _ w4).alloc (by have := hbel4.size; simp at this; omega) _).grown hg7 (by have := hbel4.size; simp at *; omega) (fun k hk => (hownlt k hk).1)
          have hd4' : d4 = secAt r d2 j := by rw [hd4.out, secAt, ← hm'.out]
          rw [hd4', ← hnx.out] at hown7
          exact ⟨j + 1, by go_num, by omega, hown7, (hbel.drew.trans (hbel4.mono (by simpa using hzr))).trans hb47⟩
        case measure => simp [intOf]; omega
      · have hne2 : (28 : Int) * ((j : Int) + 1) = (ne : Int) := by omega
        clear hq hne
        go_wp2_with fail
        go_region_held3 (fun w' => Blk w' w.heap.size 27 #[.int .u64 (r.gen : Int), .int .u64 (r.seq : Int), .slice Aw nw cw, .slice Am nm cm, .slice An nn cn])
          (first | exact hbx.drew | exact hbx.drew.below hbel4 hbx.lt | exact (hbx.drew.below hbel4 hbx.lt).alloc _ | exact ((hbx.drew.below hbel4 hbx.lt).alloc _).grown hg7 (by simp only [ne_eq]; intro e; exact absurd (hownlt _ e.symm).1 (by omega)))
          (first | (go_at_call 30; refine (sector27_any _ r.gen r.seq j m _ _ _ _ _ hcut2.drew (by omega) (by rw [hcl]; omega) (fun k hk => by have := hk.1; simp; omega) hgen hseq (by omega) (by omega)).mono ?_; intro e w4 hret4; obtain ⟨A4, c4, d4, rfl, hown4, hbel4, hc4, hm4, hd4⟩ := hret4.opened) | (refine step_apS (w0 := w4) (by rfl) _ _ (by rfl) w2.heap.size (fun _ => False) (.slice A6 j c6) (secTo r d2 j) (by rfl) (OwnS.below (w := wr.drew) hown hbel4) A4 _ c4 1 w4.heap.size d4 (by rfl) (Blk.new _ _ _) (by simp) (fun k hk => Below.heap_alloc w4 _ k hk) (hown4.rd.more (fun k hk => ⟨hk.1, .inr (by have := hk.2; simp at this; omega), fun e => by have := (hownlt _ e).2; have := hk.2; simp at this; omega⟩)) hc4 hm4 (by rw [secTo_len]; omega) (by have := hbel4.size; simp at *; omega) ?_; intro v7 w7 hown7 hg7 hat7))
        go_wp2
        go_roundw
        case rel =>
          have hb47 : Below w2.heap.size w4 w7 := ((Below.refl _ w4).alloc (by have := hbel4.size; simp at this; omega) _).grown hg7 (by have := hbel4.size; simp at *; omega) (fun k hk => (hownlt k hk).1)
          have hd4' : d4 = secAt r d2 j := by rw [hd4.out, secAt, ← hm'.out]
          rw [hd4', ← hnx.out] at hown7
          exact ⟨j + 1, by go_num, by omega, hown7, (hbel.drew.trans (hbel4.mono (by simpa using hzr))).trans hb47⟩
        case measure => simp [intOf]; omega
    · have hjn : j = m := by omega
      subst hjn
      go_wp2
      go_ret2
      refine ⟨_, by rw [encE, hv.out]; rfl, ?_, hbelw2.trans (hbel.mono hbelw2.size)⟩
      have e1 : encP r = secTo r d2 j := by rw [encP, hv.out, if_pos rfl, sectors, ← hd2.out, ← hm'.out]
      rw [e1]
      exact hown.lower hbelw2.size

theorem encode27_any (F : Nat → Prop) (r : Rec) (Aw : Option Addr) (nw cw : Nat) (Am : Option Addr) (nm cm : Nat) (An : Option Addr) (nn cn : Nat) (w : World) (h : RecIn w F r Aw nw cw Am nm cm An nn cn) (hF : ∀ k, F k → k < w.heap.size) :
    Calls Try.prog 19 #[.agg (recCells r Aw nw cw Am nm cm An nn cn)] w (EncPost w r) := by
  cases hv : r.vld with
  | false => exact encode27_bad F r Aw nw cw Am nm cm An nn cn w h hF hv
  | true => exact encode27_good F r Aw nw cw Am nm cm An nn cn w h hF hv

end Go.Proofs.Ytbcmpfdhpefdbaa
