/- The contract of the first example of the document: it holds. -/
import Derived.Test.YtbcmpfdhpefdbaaDec9
import Derived.Test.YtbcmpfdhpefdbaaTrip
set_option linter.unusedVariables false
set_option linter.unusedSimpArgs false
namespace Go.Proofs.Ytbcmpfdhpefdbaa
open Go.RowKit
attribute [local irreducible] Go.Calls

def rec12 : Rec := ⟨1, 2, [], [], []⟩
theorem rec12_ok : rec12.Ok := ⟨by show 1 < _; decide, by show 2 < _; decide, fun p hp => by simp [rec12] at hp, fun p hp => by simp [rec12] at hp⟩
theorem rec12_vld : rec12.vld = true := by decide
theorem rec12_in (w : World) (F : Nat → Prop) : RecIn w F rec12 none 0 0 none 0 0 none 0 0 :=
  { ok := rec12_ok
    wr := ⟨rfl, Rd.none_⟩, mv := ⟨rfl, Rd.none_⟩, nt := ⟨rfl, Rd.none_⟩
    lw := Nat.le_refl _, lm := Nat.le_refl _, ln := Nat.le_refl _, xw := Nat.zero_le _, xm := Nat.zero_le _, xn := Nat.zero_le _ }
theorem rec12_payl : payl rec12 = [1, 2, 0, 0, 0] := by
  simp [payl, rec12, enc_small]
theorem rec12_sec : ∃ s, encP rec12 = [s] ∧ s.length = 19 ∧ s.take 11 = [82, 1, 2, 0, 1, 5, 1, 2, 0, 0, 0] := by
  refine ⟨secAt rec12 (payl rec12) 0, ?_, ?_, ?_⟩
  · rw [encP, rec12_vld, if_pos rfl, sectors, rec12_payl]
    rfl
  · rw [rec12_payl]
    simp [secAt, sectorB, sectorH, sealB_len, chunkAt, nChunks, rec12, enc_small]
  · rw [rec12_payl]
    simp only [secAt, sectorB, sealB]
    rw [List.take_append_of_le_length (by simp [sectorH, chunkAt, nChunks, rec12, enc_small])]
    simp [sectorH, chunkAt, nChunks, rec12, enc_small]
theorem rec12_dec {s : List UInt8} (h : encP rec12 = [s]) : decode [s] = (rec12, 1, 0) := by
  have e := decode_trip rec12_ok rec12_vld []
  have e2 : sectors rec12 = [s] := by rw [encP, rec12_vld, if_pos rfl] at h; exact h
  rw [e2] at e
  exact e
theorem dec_nil : decode [] = (Rec.zero, 0, 5) := decode_err0 (decErr_absent (by simp))

set_option maxRecDepth 100000 in
set_option maxHeartbeats 1000000 in
theorem awake27_any (w : World) : Calls Try.prog 16 #[] w fun e w' => e = .returned (.bool true) ∧ Below w.heap.size w w' := by
  obtain ⟨s, hs1, hs2, hs3⟩ := rec12_sec
  have hdec := hid (rec12_dec hs1)
  have hs1' := hid hs1
  have hs3' := hid hs3
  have hs2' := hid hs2
  clear hs1 hs2 hs3
  go_enter Try.func16, Try.ntmps16
  go_wp2_with fail
  refine (encode_any (fun _ => False) rec12 none 0 0 none 0 0 none 0 0 _ (rec12_in _ _) (fun k hk => hk.elim)).mono ?_
  rintro e w1 ⟨v, rfl, hown, hbel1⟩
  rw [hs1'.out] at hown
  obtain ⟨A1, c1, rfl, hc1, hm1⟩ := hown.form
  simp only [List.length_cons, List.length_nil, Nat.zero_add] at hown hc1 ⊢
  have hE : encE rec12 = 0 := by rw [encE, rec12_vld]; rfl
  rw [hE]
  clear hE
  obtain ⟨b, o, A2, c2, rfl, hFb, hcell, hlc2, hlm2, hr2⟩ := hown.rd.at_ (j := 0) (s := s) rfl
  rw [hs2'.out] at hcell hlc2 hr2
  have hr3 := (hr2.take_ (n := 11) (by omega)).conv c2
  rw [hs3'.out] at hr3
  have hr4 : (convert 25 9 (.slice A2 11 c2)).run Try.prog w1 = .ok (.string ⟨#[82, 1, 2, 0, 1, 5, 1, 2, 0, 0, 0]⟩) w1 := hr3
  clear hr3
  have hcell2 : w1.cell? ⟨b, o, none⟩ = some (.slice A2 19 c2) := by simpa using hcell
  have k1 : (11 : Int) ≤ (c2 : Int) := by omega
  have k2 : 11 ≤ c2 := by omega
  have hdn := hid hown.rd
  go_wp2_with fail
  refine (decode_any (fun k => k < w1.heap.size ∧ (False ∨ w.heap.size ≤ k)) (some ⟨b, o, none⟩) 1 c1 [s] _ hdn.out hc1 hm1 (fun x hx => by simp at hx; rw [hx, hs2'.out]; omega) (by simp) (fun k hk => hk.1)).mono ?_
  rintro e w2 ⟨Aw, nw, cw, Am, nm, cm, An, nn, cn, rfl, hrec, hbel2⟩
  rw [hdec.out]
  clear hrec
  have hZ := Blk.new w2 27 #[.int .u64 0, .int .u64 0, .slice none 0 0, .slice none 0 0, .slice none 0 0]
  have hw12 := hbel1.size
  have hw23 := hbel2.size
  go_wp2_with (refine wpList_stBlk rfl 27 _ _ rfl w2.heap.size 27 _ (recCells rec12 Aw nw cw Am nm cm An nn cn) hZ rfl rfl info_rec rfl rfl ?_; intro w3 hb3 hg3; refine mk_stop ?_)
  have hbl3 : Below w2.heap.size w2 w3 := below_of_only ((World.grownBy_alloc w2 _ _).trans hg3) (Nat.le_refl _) (Nat.le_refl _)
  have hz3 := hbl3.size
  have hb3' := hid hb3
  unfold Mk
  go_wp2_with fail
  refine (decode_any (fun _ => False) none 0 0 [] _ ⟨rfl, [], Rd.none_, rfl, fun j s hs => by simp at hs⟩ (Nat.le_refl _) (Nat.zero_le _) (fun x hx => by simp at hx) (by simp) (fun k hk => hk.elim)).mono ?_
  rintro e w4 ⟨Bw, mw, dw, Bm, mm, dm, Bn, mn, dn, rfl, hrec, hbel4⟩
  rw [dec_nil]
  clear hrec
  have hZ4 := Blk.new w4 27 #[.int .u64 0, .int .u64 0, .slice none 0 0, .slice none 0 0, .slice none 0 0]
  have hb4 := hid (hb3'.out.below hbel4 hb3'.out.lt)
  go_wp2_with (refine wpList_stBlk rfl 27 _ _ rfl w4.heap.size 27 _ (recCells Rec.zero Bw mw dw Bm mm dm Bn mn dn) hZ4 rfl rfl info_rec rfl rfl ?_; intro w5 hb5 hg5; refine mk_stop ?_)
  have hbl5 : Below w4.heap.size w4 w5 := below_of_only ((World.grownBy_alloc w4 _ _).trans hg5) (Nat.le_refl _) (Nat.le_refl _)
  have hb5' := hb4.out.below hbl5 hb4.out.lt
  have x0 : w5.cell? ⟨w2.heap.size, 0, none⟩ = some (.int .u64 1) := hb5'.cell 0
  have x1 : w5.cell? ⟨w2.heap.size, 1, none⟩ = some (.int .u64 2) := hb5'.cell 1
  have hz5 := hbel4.size
  unfold Mk
  go_wp2_with fail
  go_ret
  exact ⟨rfl, (((hbel1.trans (hbel2.mono hw12)).trans (hbl3.mono (by omega))).trans (hbel4.mono (by omega))).trans (hbl5.mono (by omega))⟩

end Go.Proofs.Ytbcmpfdhpefdbaa
