/- The sectors of any payload, plainly. -/
import Derived.Test.YtbcmpfdhpefdbaaTrip
set_option linter.unusedVariables false
set_option linter.unusedSimpArgs false
namespace Go.Proofs.Ytbcmpfdhpefdbaa
open Go.RowKit

theorem rdN_mem {α : Type} {f : RS → α × RS} {st : RS} : ∀ n, ∀ p ∈ (rdN f n st).1, ∃ s, p = (f s).1
  | 0, p, h => by simp [rdN] at h
  | n + 1, p, h => by
    simp only [rdN, List.mem_append, List.mem_singleton] at h
    rcases h with h | h
    · exact rdN_mem n p h
    · exact ⟨_, h⟩
theorem zag_bd {m : Nat} (h : m < 18446744073709551616) : I64 (zag m) := by
  unfold I64 zag
  split <;> omega
theorem rInt_bd (st : RS) : I64 (rInt st).1 := by
  have h := rUint_bd st
  unfold rInt
  split
  · exact ⟨by decide, by decide⟩
  · rename_i e
    rw [e] at h
    exact zag_bd h
theorem rCount_le' (m : Nat) (st : RS) : (rCount m st).1 ≤ m := by
  unfold rCount
  split
  · exact Nat.zero_le _
  · split
    · assumption
    · exact Nat.zero_le _
theorem rdPW_ok (st : RS) : (rdPW st).1.Ok :=
  ⟨by have := rCount_le' 4096 st; simp only [rdPW, I64]; omega, by have := rCount_le' 16 (rCount 4096 st).2; simp only [rdPW, I64]; omega, rUint_bd _⟩
theorem rdMV_ok (st : RS) : (rdMV st).1.Ok :=
  ⟨by have := rCount_le' 4096 st; simp only [rdMV, I64]; omega, by have := rCount_le' 16 (rCount 4096 st).2; simp only [rdMV, I64]; omega, rInt_bd _, by have := rCount_le' 65536 (rInt (rCount 16 (rCount 4096 st).2).2).2; simp only [rdMV, I64]; omega⟩
theorem parseR_ok (bs : List UInt8) : (parseR bs).Ok :=
  ⟨rUint_bd _, rUint_bd _, fun p hp => by obtain ⟨s, rfl⟩ := rdN_mem _ p hp; exact rdPW_ok s, fun p hp => by obtain ⟨s, rfl⟩ := rdN_mem _ p hp; exact rdMV_ok s⟩
theorem decode_ok (ss : List (List UInt8)) : (decode ss).1.Ok := by
  unfold decode
  have h0 : Rec.zero.Ok := ⟨by show 0 < _; decide, by show 0 < _; decide, fun p hp => by simp [Rec.zero] at hp, fun p hp => by simp [Rec.zero] at hp⟩
  split
  · exact h0
  · split
    · exact parseR_ok _
    · exact h0

theorem insp_sec0 {gen part parts : Nat} {chunk : List UInt8} (hg : gen < 18446744073709551616) (hp : part < parts) (hm : parts ≤ 4096) (hc : chunk.length ≤ 28) :
    insp (sectorB gen 0 part parts chunk) = Ins.bad 5 := by
  obtain ⟨body, hb⟩ : ∃ body, body = enc gen ++ (enc 0 ++ (enc part ++ (enc parts ++ (enc chunk.length ++ (chunk ++ []))))) := ⟨_, rfl⟩
  have e0 : sectorB gen 0 part parts chunk = sealB (82 :: body) := by
    unfold sectorB sectorH
    rw [hb]
    simp [List.append_assoc]
  rw [e0]
  have hl := sealB_len (82 :: body)
  have ht : (sealB (82 :: body)).take ((sealB (82 :: body)).length - 8) = 82 :: body := by
    rw [hl, Nat.add_sub_cancel]
    unfold sealB
    exact List.take_left' rfl
  have hn : body ≠ [] := by rw [hb]; simp [enc_ne]
  have hbl := List.length_pos_iff.2 hn
  unfold insp
  rw [if_neg (by
    rw [not_or]
    refine ⟨by rw [hl]; omega, ?_⟩
    unfold sealB
    simp), ht, if_neg (by simp), if_neg (by rw [hl, List.length_cons]; omega)]
  simp only [List.drop_succ_cons, List.drop_zero]
  have e1 : rUint (some body) = (gen, some (enc 0 ++ (enc part ++ (enc parts ++ (enc chunk.length ++ (chunk ++ [])))))) := by rw [hb]; exact rUint_enc hg _
  have e2 := rUint_enc (n := 0) (by decide) (enc part ++ (enc parts ++ (enc chunk.length ++ (chunk ++ []))))
  unfold insR
  rw [if_pos]
  right
  left
  rw [e1]
  simp only
  rw [e2]
  show 0 < 1
  decide

theorem decode_payl {gen seq : Nat} {p : List UInt8} (hg : gen < 18446744073709551616) (hs : seq < 18446744073709551616) (h0 : 1 ≤ p.length) (h1 : p.length ≤ 1000) (hok : (decode (secsP gen seq p)).2.2 = 0) : (decode (secsP gen seq p)).1.vld = true ∧ payl (decode (secsP gen seq p)).1 = p := by
  have hn : nChunks p.length ≤ 4096 := by unfold nChunks; omega
  have hn0 : 0 < nChunks p.length := by unfold nChunks; omega
  rcases Nat.eq_zero_or_pos seq with rfl | hs1
  · exfalso
    have e2 := secsP_at (gen := gen) (seq := 0) (p := p) (tail := []) hn0
    rw [List.append_nil] at e2
    have e := insp_sec0 (gen := gen) (part := 0) (parts := nChunks p.length) (chunk := chunkAt p 0) hg hn0 hn (chunkAt_bd hn0).2
    have := decErr_code e2 (by rw [e]; decide)
    rw [decode_err0 this, e] at hok
    exact absurd hok (by decide)
  · have hS : SecsOf gen seq p := ⟨hg, hs, hs1, h0, hn⟩
    obtain ⟨d1, d2, d3⟩ := secsP_dec hS []
    rw [List.append_nil] at d1 d2 d3
    have hd := decode_all (ss := secsP gen seq p) (by rw [d1]; exact d2)
    rw [d1, d3] at hd
    split at hd
    · rename_i hc
      rw [hd]
      have hv : (parseR p).vld = true := by
        have := hc.1
        simp only [parseOk, Bool.and_eq_true] at this
        exact this.2
      refine ⟨hv, ?_⟩
      have he := hc.2
      rw [encP, hv, if_pos rfl, sectors_secsP] at he
      have hl : (secsP gen seq p).length = nChunks p.length := by simp [secsP]
      rw [List.take_of_length_le (by omega)] at he
      obtain ⟨_, _, r3⟩ := secsP_dec (SecsOf.rec_ (parseR_ok p) hv) []
      rw [List.append_nil, he] at r3
      have hl2 := congrArg List.length he
      simp only [secsP, List.length_map, List.length_range] at hl2
      rw [hl2, d3] at r3
      exact r3.symm
    · rw [hd] at hok
      exact absurd hok (by decide)

end Go.Proofs.Ytbcmpfdhpefdbaa
