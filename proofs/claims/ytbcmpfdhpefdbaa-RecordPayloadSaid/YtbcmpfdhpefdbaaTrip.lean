/- A record's sectors, whatever follows them, are read back, plainly. -/
import Derived.Test.YtbcmpfdhpefdbaaDecP
import Derived.Test.YtbcmpfdhpefdbaaPay
set_option linter.unusedVariables false
set_option linter.unusedSimpArgs false
namespace Go.Proofs.Ytbcmpfdhpefdbaa
open Go.RowKit

theorem decU_enc (n : Nat) : ∀ (i acc : Nat) (rest : List UInt8), n * 128 ^ i < 18446744073709551616 → (0 < i → n ≠ 0) → i ≤ 9 → decU i acc (enc n ++ rest) = some (acc + n * 128 ^ i, rest) := by
  induction n using Nat.strongRecOn with
  | ind n ih =>
    intro i acc rest hn h0 hi
    have h9 : i = 9 → n < 2 := by
      rintro rfl
      have e : (128 : Nat) ^ 9 = 9223372036854775808 := by decide
      rw [e] at hn
      omega
    by_cases h : n < 128
    · rw [enc_small h]
      have hc : (UInt8.ofNat n).toNat = n := by simp; omega
      simp only [List.cons_append, List.nil_append]
      rw [decU, hc, if_neg (by omega), if_pos h, if_neg (by omega), Nat.mod_eq_of_lt h]
    · rw [enc_big h]
      have hc : (UInt8.ofNat (n % 128 + 128)).toNat = n % 128 + 128 := by simp; omega
      simp only [List.cons_append]
      rw [decU, hc, if_neg (by omega), if_neg (by omega)]
      have hd : n / 128 * 128 ^ (i + 1) ≤ n * 128 ^ i := by
        rw [Nat.pow_succ, Nat.mul_comm (128 ^ i), ← Nat.mul_assoc]
        exact Nat.mul_le_mul_right _ (Nat.div_mul_le_self n 128)
      rw [ih (n / 128) (by omega) (i + 1) _ rest (by omega) (by omega) (by omega)]
      have e1 : (n % 128 + 128) % 128 = n % 128 := by omega
      have e2 : n / 128 * 128 ^ (i + 1) = 128 * (n / 128) * 128 ^ i := by
        rw [Nat.pow_succ, Nat.mul_comm (128 ^ i), ← Nat.mul_assoc, Nat.mul_comm (n / 128)]
      rw [e1, e2, Nat.add_assoc, ← Nat.add_mul, Nat.mod_add_div]
theorem rUint_enc {n : Nat} (h : n < 18446744073709551616) (rest : List UInt8) : rUint (some (enc n ++ rest)) = (n, some rest) := by
  unfold rUint
  simp only
  rw [decU_enc n 0 0 rest (by simpa using h) (by omega) (by omega)]
  simp
theorem rCount_enc {n m : Nat} (h : n ≤ m) (hn : n < 18446744073709551616) (rest : List UInt8) : rCount m (some (enc n ++ rest)) = (n, some rest) := by
  rw [rCount_fit (by rw [rUint_enc hn]; exact h), rUint_enc hn]
theorem zag_zig (d : Int) : zag (zig d) = d := by
  unfold zag zig
  split <;> split <;> omega
theorem rInt_enc {d : Int} (h : I64 d) (rest : List UInt8) : rInt (some (enc (zig d) ++ rest)) = (d, some rest) := by
  unfold rInt
  rw [rUint_enc (zig_lt h.1 h.2)]
  simp [zag_zig]
theorem rBlock_enc (x : B8) (rest : List UInt8) : rBlock (some (x.list ++ rest)) = (x, some rest) := by
  have : 8 ≤ (x.list ++ rest).length := by simp [B8.list]
  unfold rBlock
  simp only [if_pos this]
  simp [B8.of, B8.list]
theorem rBytes_enc {bs : List UInt8} (h : bs.length < 18446744073709551616) (rest : List UInt8) : rBytes (some (enc bs.length ++ (bs ++ rest))) = (bs, some rest) := by
  unfold rBytes
  rw [rUint_enc h]
  simp [rTake]
theorem i64_nat {g : Int} (h0 : 0 ≤ g) : ((g.toNat : Nat) : Int) = g := by omega
theorem rdPW_enc {p : PW} (h : p.Ok) (hv : p.vld = true) (rest : List UInt8) : rdPW (some (p.enc ++ rest)) = (p, some rest) := by
  unfold PW.vld pieceB at hv
  have hv := of_decide_eq_true hv
  have hver := h.v
  unfold U64 at hver
  have e1 : rCount 4096 (some (p.enc ++ rest)) = (p.group.toNat, some (enc p.piece.toNat ++ (enc p.version ++ (p.data.list ++ rest)))) := by
    unfold PW.enc
    simp only [List.append_assoc]
    exact rCount_enc (by omega) (by omega) _
  have e2 : rCount 16 (some (enc p.piece.toNat ++ (enc p.version ++ (p.data.list ++ rest)))) = (p.piece.toNat, some (enc p.version ++ (p.data.list ++ rest))) := rCount_enc (by omega) (by omega) _
  unfold rdPW
  rw [e1]
  simp only
  rw [e2]
  simp only
  rw [rUint_enc hver]
  simp only
  rw [rBlock_enc]
  simp only [i64_nat hv.1, i64_nat hv.2.2.1]
theorem rdMV_enc {p : MV} (h : p.Ok) (hv : p.vld = true) (rest : List UInt8) : rdMV (some (p.enc ++ rest)) = (p, some rest) := by
  unfold MV.vld pieceB placeB at hv
  rw [Bool.and_eq_true] at hv
  obtain ⟨hv, hb⟩ := hv
  have hv := of_decide_eq_true hv
  have hb2 : 0 ≤ p.block ∧ p.block ≤ 65536 := by
    split at hb
    · have := of_decide_eq_true hb; omega
    · have := of_decide_eq_true hb; omega
  have e1 : rCount 4096 (some (p.enc ++ rest)) = (p.group.toNat, some (enc p.piece.toNat ++ (enc (zig p.disk) ++ (enc p.block.toNat ++ rest)))) := by
    unfold MV.enc
    simp only [List.append_assoc]
    exact rCount_enc (by omega) (by omega) _
  have e2 : rCount 16 (some (enc p.piece.toNat ++ (enc (zig p.disk) ++ (enc p.block.toNat ++ rest)))) = (p.piece.toNat, some (enc (zig p.disk) ++ (enc p.block.toNat ++ rest))) := rCount_enc (by omega) (by omega) _
  have e4 : rCount 65536 (some (enc p.block.toNat ++ rest)) = (p.block.toNat, some rest) := rCount_enc (by omega) (by omega) _
  unfold rdMV
  rw [e1]
  simp only
  rw [e2]
  simp only
  rw [rInt_enc h.d]
  simp only
  rw [e4]
  simp only [i64_nat hv.1, i64_nat hv.2.2.1, i64_nat hb2.1]
theorem rdN_enc {α : Type} {f : RS → α × RS} {en : α → List UInt8} (ps : List α) (h : ∀ p ∈ ps, ∀ rest, f (some (en p ++ rest)) = (p, some rest)) (rest : List UInt8) :
    ∀ j, j ≤ ps.length → rdN f j (some (ps.flatMap en ++ rest)) = (ps.take j, some ((ps.drop j).flatMap en ++ rest))
  | 0, _ => by simp [rdN]
  | j + 1, hj => by
    have e := rdN_enc ps h rest j (by omega)
    have hx : ps[j]? = some ps[j] := List.getElem?_eq_getElem (by omega)
    have hd : ps.drop j = ps[j] :: ps.drop (j + 1) := List.drop_eq_getElem_cons (by omega)
    simp only [rdN]
    rw [e]
    simp only
    rw [hd, List.flatMap_cons, List.append_assoc, h _ (List.getElem_mem _), List.take_add_one, hx]
    simp
theorem rdN_enc_all {α : Type} {f : RS → α × RS} {en : α → List UInt8} (ps : List α) (h : ∀ p ∈ ps, ∀ rest, f (some (en p ++ rest)) = (p, some rest)) (rest : List UInt8) : rdN f ps.length (some (ps.flatMap en ++ rest)) = (ps, some rest) := by
  rw [rdN_enc ps h rest _ (Nat.le_refl _)]
  simp

theorem parse_payl {r : Rec} (ho : r.Ok) (hv : r.vld = true) : parseR (payl r) = r ∧ parseOk (payl r) = true := by
  have hv' := hv
  obtain ⟨⟨h0, h1, h2, h3⟩, hw, hm⟩ := Rec.vld_parts hv
  rw [List.all_eq_true] at hw hm
  have hg := ho.gen
  have hs := ho.seq
  unfold U64 at hg hs
  have e1 : pGen (payl r) = (r.gen, some (enc r.seq ++ (enc r.writes.length ++ (r.writes.flatMap PW.enc ++ (enc r.moves.length ++ (r.moves.flatMap MV.enc ++ (enc r.note.length ++ (r.note ++ [])))))))) := by
    unfold pGen payl
    simp only [List.append_assoc, List.append_nil]
    exact rUint_enc hg _
  have e2 : pSeq (payl r) = (r.seq, some (enc r.writes.length ++ (r.writes.flatMap PW.enc ++ (enc r.moves.length ++ (r.moves.flatMap MV.enc ++ (enc r.note.length ++ (r.note ++ []))))))) := by
    unfold pSeq
    rw [e1]
    exact rUint_enc hs _
  have e3 : pNW (payl r) = (r.writes.length, some (r.writes.flatMap PW.enc ++ (enc r.moves.length ++ (r.moves.flatMap MV.enc ++ (enc r.note.length ++ (r.note ++ [])))))) := by
    unfold pNW
    rw [e2]
    exact rCount_enc h1 (by omega) _
  have e4 : pWs (payl r) = (r.writes, some (enc r.moves.length ++ (r.moves.flatMap MV.enc ++ (enc r.note.length ++ (r.note ++ []))))) := by
    unfold pWs
    rw [e3]
    exact rdN_enc_all _ (fun p hp rest => rdPW_enc (ho.writes p hp) (hw p hp) rest) _
  have e5 : pNM (payl r) = (r.moves.length, some (r.moves.flatMap MV.enc ++ (enc r.note.length ++ (r.note ++ [])))) := by
    unfold pNM
    rw [e4]
    exact rCount_enc h2 (by omega) _
  have e6 : pMs (payl r) = (r.moves, some (enc r.note.length ++ (r.note ++ []))) := by
    unfold pMs
    rw [e5]
    exact rdN_enc_all _ (fun p hp rest => rdMV_enc (ho.moves p hp) (hm p hp) rest) _
  have e7 : pNt (payl r) = (r.note, some []) := by
    unfold pNt
    rw [e6]
    exact rBytes_enc (by omega) _
  have er : parseR (payl r) = r := by
    unfold parseR
    rw [e1, e2, e4, e6, e7]
  exact ⟨er, by unfold parseOk; rw [er, e7, hv']; rfl⟩

theorem insp_sec {gen seq part parts : Nat} {chunk : List UInt8} (hg : gen < 18446744073709551616) (hs : seq < 18446744073709551616) (h1 : 1 ≤ seq) (hp : part < parts) (hm : parts ≤ 4096) (hc0 : 1 ≤ chunk.length) (hc : chunk.length ≤ 28) :
    insp (sectorB gen seq part parts chunk) = ⟨gen, seq, part, parts, chunk, 0⟩ := by
  obtain ⟨body, hb⟩ : ∃ body, body = enc gen ++ (enc seq ++ (enc part ++ (enc parts ++ (enc chunk.length ++ (chunk ++ []))))) := ⟨_, rfl⟩
  have e0 : sectorB gen seq part parts chunk = sealB (82 :: body) := by
    unfold sectorB sectorH
    rw [hb]
    simp [List.append_assoc]
  rw [e0]
  have hl := sealB_len (82 :: body)
  have ht : (sealB (82 :: body)).take ((sealB (82 :: body)).length - 8) = 82 :: body := by
    rw [hl, Nat.add_sub_cancel]
    unfold sealB
    exact List.take_left' rfl
  have hn : body ≠ [] := by rw [hb]; simp [enc_ne]
  have hbl := List.length_pos_iff.2 hn
  unfold insp
  rw [if_neg (by
    rw [not_or]
    refine ⟨by rw [hl]; omega, ?_⟩
    unfold sealB
    simp), ht, if_neg (by simp), if_neg (by rw [hl, List.length_cons]; omega)]
  simp only [List.drop_succ_cons, List.drop_zero]
  have e1 : rUint (some body) = (gen, some (enc seq ++ (enc part ++ (enc parts ++ (enc chunk.length ++ (chunk ++ [])))))) := by rw [hb]; exact rUint_enc hg _
  have e2 := rUint_enc hs (enc part ++ (enc parts ++ (enc chunk.length ++ (chunk ++ []))))
  have e3 := rUint_enc (n := part) (by omega) (enc parts ++ (enc chunk.length ++ (chunk ++ [])))
  have e4 := rUint_enc (n := parts) (by omega) (enc chunk.length ++ (chunk ++ []))
  have e5 := rBytes_enc (bs := chunk) (by omega) []
  unfold insR
  simp only [e1, e2, e3, e4, e5]
  rw [if_neg (by
    simp only [not_or, Nat.not_lt, Nat.not_le]
    exact ⟨by simp [rDone], h1, hm, hp, hc0, hc⟩)]

theorem chunkAt_bd {p : List UInt8} {i : Nat} (h : i < nChunks p.length) : 1 ≤ (chunkAt p i).length ∧ (chunkAt p i).length ≤ 28 := by
  unfold nChunks at h
  simp only [chunkAt, List.length_take, List.length_drop]
  omega
theorem chunks_all (p : List UInt8) : ∀ j, j ≤ nChunks p.length → (List.range j).flatMap (fun i => chunkAt p i) = p.take (28 * j)
  | 0, _ => by simp
  | j + 1, h => by
    rw [List.range_succ, List.flatMap_append, chunks_all p j (by omega)]
    simp only [List.flatMap_cons, List.flatMap_nil, List.append_nil, chunkAt]
    rw [Nat.mul_add, List.take_add]
theorem chunks_whole (p : List UInt8) : (List.range (nChunks p.length)).flatMap (fun i => chunkAt p i) = p := by
  rw [chunks_all p _ (Nat.le_refl _)]
  exact List.take_of_length_le (by unfold nChunks; omega)

/-- the sectors of any payload p -/
structure SecsOf (gen seq : Nat) (p : List UInt8) : Prop where
  (g : gen < 18446744073709551616) (s : seq < 18446744073709551616) (s1 : 1 ≤ seq) (p0 : 1 ≤ p.length) (p1 : nChunks p.length ≤ 4096)
def secsP (gen seq : Nat) (p : List UInt8) : List (List UInt8) := (List.range (nChunks p.length)).map (fun i => sectorB gen seq i (nChunks p.length) (chunkAt p i))
theorem secsP_at {gen seq : Nat} {p : List UInt8} {tail : List (List UInt8)} {i : Nat} (h : i < nChunks p.length) : (secsP gen seq p ++ tail)[i]? = some (sectorB gen seq i (nChunks p.length) (chunkAt p i)) := by
  rw [List.getElem?_append_left (by simp [secsP, h])]
  simp [secsP, h]
theorem secsP_insp {gen seq : Nat} {p : List UInt8} (h : SecsOf gen seq p) {i : Nat} (hi : i < nChunks p.length) : insp (sectorB gen seq i (nChunks p.length) (chunkAt p i)) = ⟨gen, seq, i, nChunks p.length, chunkAt p i, 0⟩ :=
  insp_sec h.g h.s h.s1 hi h.p1 (chunkAt_bd hi).1 (chunkAt_bd hi).2
theorem secsP_dec {gen seq : Nat} {p : List UInt8} (h : SecsOf gen seq p) (tail : List (List UInt8)) :
    decParts (secsP gen seq p ++ tail) = nChunks p.length ∧ (∀ i, i < nChunks p.length → decErr (secsP gen seq p ++ tail) i = none) ∧ decAll (secsP gen seq p ++ tail) (nChunks p.length) = p := by
  have hn : 0 < nChunks p.length := by have := h.p0; unfold nChunks; omega
  have hd : decHd (secsP gen seq p ++ tail) = ⟨gen, seq, 0, nChunks p.length, chunkAt p 0, 0⟩ := by
    unfold decHd
    rw [secsP_at hn, Option.getD_some, secsP_insp h hn]
  have he : ∀ i, i < nChunks p.length → decErr (secsP gen seq p ++ tail) i = none := fun i hi => by
    have e := secsP_insp h hi
    refine decErr_fit (secsP_at hi) (by rw [e]) ?_
    rw [e, hd]
    exact ⟨rfl, rfl, rfl, rfl⟩
  refine ⟨by unfold decParts; rw [if_pos (he 0 hn), hd], he, ?_⟩
  conv => rhs; rw [← chunks_whole p]
  unfold decAll
  have hc : ∀ i, i < nChunks p.length → (insp ((secsP gen seq p ++ tail)[i]?.getD [])).chunk = chunkAt p i := fun i hi => by
    rw [secsP_at hi, Option.getD_some, secsP_insp h hi]
  generalize nChunks p.length = n at hc
  clear he hd hn
  induction n with
  | zero => rfl
  | succ n ih =>
    rw [List.range_succ, List.flatMap_append, List.flatMap_append, ih (fun i hi => hc i (by omega))]
    simp [hc n (by omega)]

theorem sectors_secsP (r : Rec) : sectors r = secsP r.gen r.seq (payl r) := rfl
theorem SecsOf.rec_ {r : Rec} (ho : r.Ok) (hv : r.vld = true) : SecsOf r.gen r.seq (payl r) := by
  have hl := payl_len ho (Rec.V.of hv)
  refine ⟨ho.gen, ho.seq, (Rec.vld_parts hv).1.1, ?_, by unfold nChunks; omega⟩
  have := List.length_pos_iff.2 (enc_ne r.gen)
  simp only [payl, List.length_append]
  omega
theorem sectors_len (r : Rec) : (sectors r).length = nChunks (payl r).length := secTo_len _ _ _

/-- the round trip -/
theorem decode_trip {r : Rec} (ho : r.Ok) (hv : r.vld = true) (tail : List (List UInt8)) : decode (sectors r ++ tail) = (r, (sectors r).length, 0) := by
  have h := SecsOf.rec_ ho hv
  obtain ⟨h1, h2, h3⟩ := secsP_dec h tail
  obtain ⟨p1, p2⟩ := parse_payl ho hv
  rw [decode_all (by rw [sectors_secsP, h1]; exact h2), sectors_secsP, h1, h3, p1, p2]
  rw [if_pos ⟨rfl, by
    rw [encP, hv, if_pos rfl, sectors_secsP]
    exact (List.take_left' (by simp [secsP])).symm⟩]
  simp [secsP]

end Go.Proofs.Ytbcmpfdhpefdbaa
