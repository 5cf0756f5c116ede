/- The contracts of the reference's Sector and Encode. -/
import Derived.Test.YtbcmpfdhpefdbaaSS
set_option linter.unusedVariables false
set_option linter.unusedSimpArgs false
namespace Go.Proofs.Ytbcmpfdhpefdbaa
open Go.RowKit
attribute [local irreducible] Go.Calls

theorem sector_len {gen seq part parts : Nat} {chunk : List UInt8} (h1 : gen < 18446744073709551616) (h2 : seq < 18446744073709551616) (h3 : part < 18446744073709551616) (h4 : parts < 18446744073709551616) : (sectorH gen seq part parts).length ≤ 41 := by
  have := enc_len10 h1
  have := enc_len10 h2
  have := enc_len10 h3
  have := enc_len10 h4
  simp only [sectorH, List.length_cons, List.length_append]
  omega

set_option maxRecDepth 100000 in
set_option maxHeartbeats 1000000 in
theorem sector27_any (F : Nat → Prop) (gen seq part parts : Nat) (A : Option Addr) (k c : Nat) (ch : List UInt8) (w : World) (h : RdB w F A k ch) (hkc : k ≤ c) (hl : ch.length ≤ 10000) (hF : ∀ k, F k → k < w.heap.size)
    (hg : gen < 18446744073709551616) (hs : seq < 18446744073709551616) (hp : part < 1000000000) (hps : parts < 1000000000) :
    Calls Try.prog 30 #[.agg #[.int .u64 (gen : Int), .int .u64 (seq : Int), .int .i64 (part : Int), .int .i64 (parts : Int)], .slice A k c] w (RetB w.heap.size w (sectorB gen seq part parts ch)) := by
  have eg := enc_len10 hg
  have es := enc_len10 hs
  have ep := enc_len10 (n := part) (by omega)
  have eps := enc_len10 (n := parts) (by omega)
  have hbox : Blk (w.alloc (.cells #[.int .u64 (gen : Int), .int .u64 (seq : Int), .int .i64 (part : Int), .int .i64 (parts : Int)] 39)) w.heap.size 39 #[.int .u64 (gen : Int), .int .u64 (seq : Int), .int .i64 (part : Int), .int .i64 (parts : Int)] := Blk.new _ _ _
  have hsz0 : (w.alloc (.cells #[.int .u64 (gen : Int), .int .u64 (seq : Int), .int .i64 (part : Int), .int .i64 (parts : Int)] 39)).heap.size = w.heap.size + 1 := by simp
  have hbel0 : Below w.heap.size w (w.alloc (.cells #[.int .u64 (gen : Int), .int .u64 (seq : Int), .int .i64 (part : Int), .int .i64 (parts : Int)] 39)) := (Below.refl _ _).alloc (Nat.le_refl _) _
  have hr1 := rdB_one (w.alloc (.cells #[.int .u64 (gen : Int), .int .u64 (seq : Int), .int .i64 (part : Int), .int .i64 (parts : Int)] 39)) 82 (by decide)
  rw [hsz0] at hr1
  have hz : UInt8.ofNat 82 = 82 := rfl
  rw [hz] at hr1
  clear hz
  have hr1' : RdB (w.alloc (.cells #[.int .u64 (gen : Int), .int .u64 (seq : Int), .int .i64 (part : Int), .int .i64 (parts : Int)] 39) |>.alloc (.cells #[.int .u8 82] 5)) (fun k => k = w.heap.size + 1) (some ⟨w.heap.size + 1, 0, none⟩) 1 [82] := hr1
  clear hr1
  have q0 := fun (w' : World) (hh : Blk w' w.heap.size 39 #[.int .u64 (gen : Int), .int .u64 (seq : Int), .int .i64 (part : Int), .int .i64 (parts : Int)]) => (show w'.cell? ⟨w.heap.size, 0, none⟩ = some (.int .u64 (gen : Int)) from hh.cell 0)
  have q1 := fun (w' : World) (hh : Blk w' w.heap.size 39 #[.int .u64 (gen : Int), .int .u64 (seq : Int), .int .i64 (part : Int), .int .i64 (parts : Int)]) => (show w'.cell? ⟨w.heap.size, 1, none⟩ = some (.int .u64 (seq : Int)) from hh.cell 1)
  have q2 := fun (w' : World) (hh : Blk w' w.heap.size 39 #[.int .u64 (gen : Int), .int .u64 (seq : Int), .int .i64 (part : Int), .int .i64 (parts : Int)]) => (show w'.cell? ⟨w.heap.size, 2, none⟩ = some (.int .i64 (part : Int)) from hh.cell 2)
  have q3 := fun (w' : World) (hh : Blk w' w.heap.size 39 #[.int .u64 (gen : Int), .int .u64 (seq : Int), .int .i64 (part : Int), .int .i64 (parts : Int)]) => (show w'.cell? ⟨w.heap.size, 3, none⟩ = some (.int .i64 (parts : Int)) from hh.cell 3)
  have ew1 : IntKind.u64.wrap (part : Int) = (part : Int) := by rw [IntKind.wrap_u64]; omega
  have ew2 : IntKind.u64.wrap (parts : Int) = (parts : Int) := by rw [IntKind.wrap_u64]; omega
  go_enter Try.func30, Try.ntmps30
  go_wp2_with fail
  go_region_held3 (fun w' => Blk w' w.heap.size 39 #[.int .u64 (gen : Int), .int .u64 (seq : Int), .int .i64 (part : Int), .int .i64 (parts : Int)])
    (first | exact hbox.drew | exact (hbox.alloc _).drew | exact (hbox.alloc _).drew.below hbel1 (by simp; omega) | exact ((hbox.alloc _).drew.below hbel1 (by simp; omega)).below hbel2 (by have := hbel1.size; simp at this; omega))
    (first | (go_at_call 72; refine (appendUint9_any _ _ _ _ _ gen _ hr1'.drew (by decide) (fun q hq => by rw [hq]; simp <;> omega) hg).mono ?_; intro e w1 hret1; obtain ⟨A1, c1, d1, rfl, hown1, hbel1, hc1, hm1, hd1⟩ := hret1.opened; have hl1 : d1.length ≤ 11 := (by rw [hd1.out, List.length_append]; simp only [List.length_cons, List.length_nil]; omega)) | (go_at_call 72; refine (appendUint9_any _ A1 _ c1 d1 seq _ hown1.rd (by omega) (fun q hq => hq.1) hs).mono ?_; intro e w2 hret2; obtain ⟨A2, c2, d2, rfl, hown2, hbel2, hc2, hm2, hd2⟩ := hret2.opened; have hl2 : d2.length ≤ 21 := (by rw [hd2.out, List.length_append]; omega)))
  have hbx2 := ((hbox.alloc (.cells #[.int .u8 82] 5)).drew.below hbel1 (by simp; omega)).below hbel2 (by have := hbel1.size; simp at this; omega)
  have hz2 : w.heap.size < w2.heap.size := hbx2.lt
  have hbelw2 : Below w.heap.size w w2 := (((hbel0.alloc (by simp) _).drew).trans (hbel1.mono (by simp; omega))).trans (hbel2.mono (by have := hbel1.size; simp at this; omega))
  clear hret1 hret2
  go_wp2_with fail
  go_region_held3 (fun w' => Blk w' w.heap.size 39 #[.int .u64 (gen : Int), .int .u64 (seq : Int), .int .i64 (part : Int), .int .i64 (parts : Int)])
    (first | exact hbx2.drew | exact hbx2.drew.below hbel3 hz2 | exact (hbx2.drew.below hbel3 hz2).below hbel4 (by have := hbel3.size; simp at this; omega))
    (first | (go_at_call 72; refine (appendUint9_any _ A2 _ c2 d2 part _ hown2.rd.drew (by omega) (fun q hq => by have := hq.1; simp; omega) (by omega)).mono ?_; intro e w3 hret3; obtain ⟨A3, c3, d3, rfl, hown3, hbel3, hc3, hm3, hd3⟩ := hret3.opened; have hl3 : d3.length ≤ 31 := (by rw [hd3.out, List.length_append]; omega)) | (go_at_call 72; refine (appendUint9_any _ A3 _ c3 d3 parts _ hown3.rd (by omega) (fun q hq => hq.1) (by omega)).mono ?_; intro e w4 hret4; obtain ⟨A4, c4, d4, rfl, hown4, hbel4, hc4, hm4, hd4⟩ := hret4.opened; have hl4 : d4.length ≤ 41 := (by rw [hd4.out, List.length_append]; omega)))
  have hbelw4 : Below w.heap.size w w4 := ((hbelw2.drew).trans (hbel3.mono (by simp; omega))).trans (hbel4.mono (by have := hbel3.size; simp at this; omega))
  have hd4' := hid (show d4 = sectorH gen seq part parts by rw [hd4.out, hd3.out, hd2.out, hd1.out]; simp [sectorH])
  clear q0 q1 q2 q3 ew1 ew2 hret3 hret4
  go_wp2_with fail
  refine (appendBytes9_any _ A4 _ c4 d4 F A k c ch _ hown4.rd (h.keep (Kp.of_below hbelw4 hF)) (by omega) (fun q hq => hq.1) (fun q hq => by have := hF q hq; have := hbelw4.size; omega)).mono ?_
  intro e w5 hret5
  obtain ⟨A5, c5, d5, rfl, hown5, hbel5, hc5, hm5, hd5⟩ := hret5.opened
  have hl5 : d5.length ≤ 20000 := by rw [hd5.out, List.length_append, List.length_append]; have := enc_len10 (n := ch.length) (by omega); omega
  have hbelw5 := hbelw4.trans (hbel5.mono hbelw4.size)
  clear hret5
  go_wp2_with fail
  refine (sealed27_any _ A5 _ c5 d5 _ hown5.rd hc5 (by omega) (fun q hq => hq.1)).mono ?_
  rintro e w6 ⟨v6, rfl, hown6, hbel6⟩
  go_wp2
  go_ret
  refine ⟨v6, rfl, ?_, hbelw5.trans (hbel6.mono hbelw5.size)⟩
  have := hown6.lower (base := w.heap.size) hbelw5.size
  rw [hd5.out, hd4'.out] at this
  exact this

end Go.Proofs.Ytbcmpfdhpefdbaa
