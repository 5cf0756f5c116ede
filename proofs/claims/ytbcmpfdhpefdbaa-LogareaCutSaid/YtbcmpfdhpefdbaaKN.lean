/- What Decode answers where a sector of a record is missing, plainly. The sectors of any payload, plainly. What Scan answers, plainly. -/
import Derived.Test.YtbcmpfdhpefdbaaKM
set_option linter.unusedVariables false
set_option linter.unusedSimpArgs false
namespace Go.Proofs.Ytbcmpfdhpefdbaa
open Go.RowKit

theorem decU_more {z : List UInt8} (x : List UInt8) : ∀ {i acc n : Nat} {r : List UInt8}, decU i acc x = some (n, r) → decU i acc (x ++ z) = some (n, r ++ z) := by
  induction x with
  | nil => intro i acc n r h; simp [decU] at h
  | cons c x ih =>
    intro i acc n r h
    rw [List.cons_append]
    unfold decU at h ⊢
    split at h
    · cases h
    · rename_i h9
      rw [if_neg h9]
      split at h
      · rename_i hc
        rw [if_pos hc]
        split at h
        · cases h
        · rename_i h0
          rw [if_neg h0]
          simp only [Option.some.injEq, Prod.mk.injEq] at h ⊢
          exact ⟨h.1, by rw [h.2]⟩
      · rename_i hc
        rw [if_neg hc]
        exact ih h
theorem rUint_more {z x r : List UInt8} (h : (rUint (some x)).2 = some r) : rUint (some (x ++ z)) = ((rUint (some x)).1, some (r ++ z)) := by
  unfold rUint at h ⊢
  simp only at h ⊢
  cases hd : decU 0 0 x with
  | none => rw [hd] at h; cases h
  | some y =>
    obtain ⟨n, r'⟩ := y
    rw [hd] at h
    simp only [Option.some.injEq] at h
    subst h
    rw [decU_more x hd]
theorem rBytes_more {z x r : List UInt8} (h : (rBytes (some x)).2 = some r) : (rBytes (some (x ++ z))).2 = some (r ++ z) := by
  cases hu : (rUint (some x)).2 with
  | none =>
    unfold rBytes at h
    rw [rUint_none hu] at h
    cases h
  | some q =>
    have e : rUint (some x) = ((rUint (some x)).1, some q) := by rw [← hu]
    unfold rBytes at h ⊢
    rw [rUint_more hu]
    rw [e] at h
    simp only [rTake] at h ⊢
    split at h
    · rename_i hl
      simp only [Option.some.injEq] at h
      rw [if_pos (by rw [List.length_append]; omega)]
      simp only [Option.some.injEq]
      rw [List.drop_append_of_le_length hl, h]
    · cases h
theorem insR_code {st : RS} (h : (insR st).code = 0) : (rBytes (rUint (rUint (rUint (rUint st).2).2).2).2).2 = some [] := by
  unfold insR at h
  split at h
  · simp [Ins.bad] at h
  · rename_i h4
    simp only [not_or] at h4
    have := h4.1
    cases hs : (rBytes (rUint (rUint (rUint (rUint st).2).2).2).2).2 with
    | none => rw [hs] at this; simp [rDone] at this
    | some l =>
      rw [hs] at this
      cases l with
      | nil => rfl
      | cons a l => simp [rDone] at this
theorem some_of_ne {α : Type} {o : Option α} (h : o ≠ none) : ∃ x, o = some x := by cases o; exact absurd rfl h; exact ⟨_, rfl⟩
theorem insR_prefix {x z : List UInt8} (h : (insR (some x)).code = 0) (h2 : (insR (some (x ++ z))).code = 0) : z = [] := by
  have e := insR_code h
  have e2 := insR_code h2
  obtain ⟨r4, q4⟩ := some_of_ne (rBytes_ne (st := (rUint (rUint (rUint (rUint (some x)).2).2).2).2) (by rw [e]; simp))
  obtain ⟨r3, q3⟩ := some_of_ne (rUint_ne (st := (rUint (rUint (rUint (some x)).2).2).2) (by rw [q4]; simp))
  obtain ⟨r2, q2⟩ := some_of_ne (rUint_ne (st := (rUint (rUint (some x)).2).2) (by rw [q3]; simp))
  obtain ⟨r1, q1⟩ := some_of_ne (rUint_ne (st := (rUint (some x)).2) (by rw [q2]; simp))
  rw [q1] at q2; rw [q1, q2] at q3; rw [q1, q2, q3] at q4
  rw [q1, q2, q3, q4] at e
  rw [rUint_more q1, rUint_more q2, rUint_more q3, rUint_more q4, rBytes_more e] at e2
  simpa using e2

theorem insp_codes (b : List UInt8) : (insp b).code = 0 ∨ (insp b).code = 5 ∨ (insp b).code = 6 := by
  unfold insp
  split
  · exact .inr (.inl rfl)
  · split
    · exact .inr (.inr rfl)
    · split
      · exact .inr (.inl rfl)
      · unfold insR
        split
        · exact .inr (.inl rfl)
        · exact .inl rfl
theorem insp_nil : (insp []).code = 5 := rfl
/-- a sector cut is none -/
theorem insp_cut {gen seq part parts : Nat} {chunk : List UInt8} {h : Nat} (hok : (insp (sectorB gen seq part parts chunk)).code = 0) (hh : h < (sectorB gen seq part parts chunk).length) : (insp ((sectorB gen seq part parts chunk).take h)).code ≠ 0 := by
  obtain ⟨body, hb⟩ : ∃ body, body = enc gen ++ enc seq ++ enc part ++ enc parts ++ enc chunk.length ++ chunk := ⟨_, rfl⟩
  have e0 : sectorB gen seq part parts chunk = sealB (82 :: body) := by
    unfold sectorB sectorH
    rw [hb]
    simp [List.append_assoc]
  rw [e0] at hok hh ⊢
  have hl := sealB_len (82 :: body)
  simp only [List.length_cons] at hl
  intro hc
  have full : ∀ b : List UInt8, (insp b).code = 0 → 8 < b.length ∧ (insR (some ((b.take (b.length - 8)).drop 1))).code = 0 := by
    intro b hb
    unfold insp at hb
    split at hb
    · simp [Ins.bad] at hb
    · rename_i h1
      split at hb
      · simp [Ins.bad] at hb
      · split at hb
        · simp [Ins.bad] at hb
        · rename_i h3
          exact ⟨by omega, hb⟩
  obtain ⟨_, f1⟩ := full _ hok
  obtain ⟨f2, f3⟩ := full _ hc
  rw [List.length_take] at f2 f3
  have hm : min h (sealB (82 :: body)).length = h := by omega
  rw [hm] at f2 f3
  have t1 : (sealB (82 :: body)).take ((sealB (82 :: body)).length - 8) = 82 :: body := by
    rw [hl, Nat.add_sub_cancel]
    unfold sealB
    exact List.take_left' (by simp)
  have t2 : ((sealB (82 :: body)).take h).take (h - 8) = (82 :: body).take (h - 8) := by
    rw [List.take_take, show min (h - 8) h = h - 8 from by omega]
    unfold sealB
    rw [List.take_append_of_le_length (by simp; omega)]
  rw [t1] at f1
  rw [t2] at f3
  obtain ⟨q, hq⟩ : ∃ q, h - 8 = q + 1 := ⟨h - 9, by omega⟩
  rw [hq] at f3
  simp only [List.take_succ_cons, List.drop_succ_cons, List.drop_zero] at f1 f3
  have := insR_prefix (x := body.take q) (z := body.drop q) f3 (by rw [List.take_append_drop]; exact f1)
  have hz := congrArg List.length this
  simp at hz
  omega

theorem decErr_codes {ss : List (List UInt8)} {i : Nat} {c : Int} (h : decErr ss i = some c) : c = 5 ∨ c = 6 := by
  unfold decErr at h
  split at h
  · injection h with h; exact .inl h.symm
  · rename_i s _
    split at h
    · rename_i hc
      injection h with h
      rcases insp_codes s with h1 | h1 | h1
      · exact absurd h1 hc
      · exact .inl (by rw [← h, h1])
      · exact .inr (by rw [← h, h1])
    · split at h
      · cases h
      · injection h with h; exact .inl h.symm
/-- either an error, or all sectors fit -/
theorem decode_cases (ss : List (List UInt8)) : ((decode ss).2.1 = 0 ∧ ((decode ss).2.2 = 5 ∨ (decode ss).2.2 = 6)) ∨ ((decode ss).2.2 = 0 ∧ ∀ i, i < decParts ss → decErr ss i = none) := by
  cases h : (List.range (decParts ss)).findSome? (decErr ss) with
  | some c =>
    left
    unfold decode
    rw [h]
    obtain ⟨i, _, hi⟩ := List.exists_of_findSome?_eq_some h
    exact ⟨rfl, decErr_codes hi⟩
  | none =>
    have h0 : ∀ i, i < decParts ss → decErr ss i = none := fun i hi => List.findSome?_eq_none_iff.1 h i (List.mem_range.2 hi)
    rw [decode_all h0]
    split
    · exact .inr ⟨rfl, h0⟩
    · exact .inl ⟨rfl, .inl rfl⟩

theorem decErr0_ne {ss : List (List UInt8)} (h : ∀ i, i < decParts ss → decErr ss i = none) : decErr ss 0 = none := h 0 (@decParts_le ss).2
theorem secsP_len (gen seq : Nat) (p : List UInt8) : (secsP gen seq p).length = nChunks p.length := by simp [secsP]

/-- sectors of p, of which the k-th has been put by -/
theorem miss_err {gen seq : Nat} {p : List UInt8} (h : SecsOf gen seq p) {l : List (List UInt8)} {k : Nat} (hk : k < nChunks p.length) (hl : ∀ i, i < k → l[i]? = (secsP gen seq p)[i]?) (hbad : ∀ s, l[k]? = some s → (insp s).code ≠ 0) :
    (decode l).2.1 = 0 ∧ ((decode l).2.2 = 5 ∨ (decode l).2.2 = 6) := by
  rcases decode_cases l with h1 | ⟨_, h2⟩
  · exact h1
  · exfalso
    have h0 := decErr0_ne h2
    have hkk : k < decParts l := by
      rcases Nat.eq_zero_or_pos k with rfl | hp
      · exact (@decParts_le l).2
      · unfold decParts
        rw [if_pos h0]
        have e := hl 0 hp
        have e2 := secsP_at (gen := gen) (seq := seq) (p := p) (tail := []) (i := 0) (by omega)
        rw [List.append_nil] at e2
        rw [decHd, e, e2, Option.getD_some, secsP_insp h (by omega)]
        exact hk
    obtain ⟨s, hs, hc, _⟩ := decErr_none (h2 k hkk)
    exact hbad s hs hc

/-- one of another record's sectors in its place -/
theorem miss_other {gen seq gen' seq' : Nat} {p p' : List UInt8} (h : SecsOf gen seq p) (h' : SecsOf gen' seq' p') (hne : ¬ (gen = gen' ∧ seq = seq')) {k j : Nat} (hk : k < nChunks p.length) (hj : j < nChunks p'.length) :
    ((decode ((secsP gen seq p).set k (sectorB gen' seq' j (nChunks p'.length) (chunkAt p' j)))).2.1 = 0 ∧ ((decode ((secsP gen seq p).set k (sectorB gen' seq' j (nChunks p'.length) (chunkAt p' j)))).2.2 = 5 ∨ (decode ((secsP gen seq p).set k (sectorB gen' seq' j (nChunks p'.length) (chunkAt p' j)))).2.2 = 6)) ∨
    (k = 0 ∧ nChunks p'.length = 1 ∧ (secsP gen seq p).set k (sectorB gen' seq' j (nChunks p'.length) (chunkAt p' j)) = secsP gen' seq' p' ++ (secsP gen seq p).drop 1) := by
  obtain ⟨l, hl⟩ : ∃ l, l = (secsP gen seq p).set k (sectorB gen' seq' j (nChunks p'.length) (chunkAt p' j)) := ⟨_, rfl⟩
  rw [← hl]
  have hlk : l[k]? = some (sectorB gen' seq' j (nChunks p'.length) (chunkAt p' j)) := by
    rw [hl, List.getElem?_set_self (by rw [secsP_len]; exact hk)]
  have hli : ∀ i, i ≠ k → i < nChunks p.length → l[i]? = some (sectorB gen seq i (nChunks p.length) (chunkAt p i)) := by
    intro i hi hin
    have e2 := secsP_at (gen := gen) (seq := seq) (p := p) (tail := []) hin
    rw [List.append_nil] at e2
    rw [hl, List.getElem?_set_ne (fun e => hi e.symm), e2]
  rcases decode_cases l with h1 | ⟨_, h2⟩
  · exact .inl h1
  · right
    have h0 := decErr0_ne h2
    rcases Nat.eq_zero_or_pos k with rfl | hp
    · have hd : decHd l = ⟨gen', seq', j, nChunks p'.length, chunkAt p' j, 0⟩ := by rw [decHd, hlk, Option.getD_some, secsP_insp h' hj]
      obtain ⟨s, hs, _, _, _, hpt, _⟩ := decErr_none h0
      rw [hlk] at hs
      injection hs with hs
      rw [← hs, secsP_insp h' hj] at hpt
      simp only at hpt
      subst hpt
      have hparts : decParts l = nChunks p'.length := by unfold decParts; rw [if_pos h0, hd]
      have h1 : nChunks p'.length = 1 := by
        rcases Nat.lt_or_ge 1 (nChunks p'.length) with h3 | h3
        · exfalso
          obtain ⟨s, hs, _, hg, hq, _⟩ := decErr_none (h2 1 (by rw [hparts]; exact h3))
          have h1l : 1 < nChunks p.length := by
            have := (List.getElem?_eq_some_iff.1 hs).1
            rw [hl, List.length_set, secsP_len] at this
            exact this
          rw [hli 1 (by omega) h1l] at hs
          injection hs with hs
          rw [← hs, secsP_insp h h1l, hd] at hg hq
          exact hne ⟨hg, hq⟩
        · omega
      refine ⟨rfl, h1, ?_⟩
      have e3 : secsP gen' seq' p' = [sectorB gen' seq' 0 (nChunks p'.length) (chunkAt p' 0)] := by unfold secsP; rw [h1]; rfl
      have e4 : secsP gen seq p ≠ [] := by
        intro e
        have := congrArg List.length e
        rw [secsP_len] at this
        simp at this
        omega
      rw [e3, hl]
      cases hq : secsP gen seq p with
      | nil => exact absurd hq e4
      | cons a l' => simp
    · exfalso
      have hd : decHd l = ⟨gen, seq, 0, nChunks p.length, chunkAt p 0, 0⟩ := by rw [decHd, hli 0 (by omega) (by omega), Option.getD_some, secsP_insp h (by omega)]
      have hparts : decParts l = nChunks p.length := by unfold decParts; rw [if_pos h0, hd]
      obtain ⟨s, hs, _, hg, hq, _⟩ := decErr_none (h2 k (by rw [hparts]; exact hk))
      rw [hlk] at hs
      injection hs with hs
      rw [← hs, secsP_insp h' hj, hd] at hg hq
      exact hne ⟨hg.symm, hq.symm⟩

end Go.Proofs.Ytbcmpfdhpefdbaa

namespace Go.Proofs.Ytbcmpfdhpefdbaa
open Go.RowKit

theorem rdN_mem {α : Type} {f : RS → α × RS} {st : RS} : ∀ n, ∀ p ∈ (rdN f n st).1, ∃ s, p = (f s).1
  | 0, p, h => by simp [rdN] at h
  | n + 1, p, h => by
    simp only [rdN, List.mem_append, List.mem_singleton] at h
    rcases h with h | h
    · exact rdN_mem n p h
    · exact ⟨_, h⟩
theorem zag_bd {m : Nat} (h : m < 18446744073709551616) : I64 (zag m) := by
  unfold I64 zag
  split <;> omega
theorem rInt_bd (st : RS) : I64 (rInt st).1 := by
  have h := rUint_bd st
  unfold rInt
  split
  · exact ⟨by decide, by decide⟩
  · rename_i e
    rw [e] at h
    exact zag_bd h
theorem rCount_le' (m : Nat) (st : RS) : (rCount m st).1 ≤ m := by
  unfold rCount
  split
  · exact Nat.zero_le _
  · split
    · assumption
    · exact Nat.zero_le _
theorem rdPW_ok (st : RS) : (rdPW st).1.Ok :=
  ⟨by have := rCount_le' 4096 st; simp only [rdPW, I64]; omega, by have := rCount_le' 16 (rCount 4096 st).2; simp only [rdPW, I64]; omega, rUint_bd _⟩
theorem rdMV_ok (st : RS) : (rdMV st).1.Ok :=
  ⟨by have := rCount_le' 4096 st; simp only [rdMV, I64]; omega, by have := rCount_le' 16 (rCount 4096 st).2; simp only [rdMV, I64]; omega, rInt_bd _, by have := rCount_le' 65536 (rInt (rCount 16 (rCount 4096 st).2).2).2; simp only [rdMV, I64]; omega⟩
theorem parseR_ok (bs : List UInt8) : (parseR bs).Ok :=
  ⟨rUint_bd _, rUint_bd _, fun p hp => by obtain ⟨s, rfl⟩ := rdN_mem _ p hp; exact rdPW_ok s, fun p hp => by obtain ⟨s, rfl⟩ := rdN_mem _ p hp; exact rdMV_ok s⟩
theorem decode_ok (ss : List (List UInt8)) : (decode ss).1.Ok := by
  unfold decode
  have h0 : Rec.zero.Ok := ⟨by show 0 < _; decide, by show 0 < _; decide, fun p hp => by simp [Rec.zero] at hp, fun p hp => by simp [Rec.zero] at hp⟩
  split
  · exact h0
  · split
    · exact parseR_ok _
    · exact h0

theorem insp_sec0 {gen part parts : Nat} {chunk : List UInt8} (hg : gen < 18446744073709551616) (hp : part < parts) (hm : parts ≤ 4096) (hc : chunk.length ≤ 28) :
    insp (sectorB gen 0 part parts chunk) = Ins.bad 5 := by
  obtain ⟨body, hb⟩ : ∃ body, body = enc gen ++ (enc 0 ++ (enc part ++ (enc parts ++ (enc chunk.length ++ (chunk ++ []))))) := ⟨_, rfl⟩
  have e0 : sectorB gen 0 part parts chunk = sealB (82 :: body) := by
    unfold sectorB sectorH
    rw [hb]
    simp [List.append_assoc]
  rw [e0]
  have hl := sealB_len (82 :: body)
  have ht : (sealB (82 :: body)).take ((sealB (82 :: body)).length - 8) = 82 :: body := by
    rw [hl, Nat.add_sub_cancel]
    unfold sealB
    exact List.take_left' rfl
  have hn : body ≠ [] := by rw [hb]; simp [enc_ne]
  have hbl := List.length_pos_iff.2 hn
  unfold insp
  rw [if_neg (by
    rw [not_or]
    refine ⟨by rw [hl]; omega, ?_⟩
    unfold sealB
    simp), ht, if_neg (by simp), if_neg (by rw [hl, List.length_cons]; omega)]
  simp only [List.drop_succ_cons, List.drop_zero]
  have e1 : rUint (some body) = (gen, some (enc 0 ++ (enc part ++ (enc parts ++ (enc chunk.length ++ (chunk ++ [])))))) := by rw [hb]; exact rUint_enc hg _
  have e2 := rUint_enc (n := 0) (by decide) (enc part ++ (enc parts ++ (enc chunk.length ++ (chunk ++ []))))
  unfold insR
  rw [if_pos]
  right
  left
  rw [e1]
  simp only
  rw [e2]
  show 0 < 1
  decide

theorem decode_payl {gen seq : Nat} {p : List UInt8} (hg : gen < 18446744073709551616) (hs : seq < 18446744073709551616) (h0 : 1 ≤ p.length) (h1 : p.length ≤ 1000) (hok : (decode (secsP gen seq p)).2.2 = 0) : (decode (secsP gen seq p)).1.vld = true ∧ payl (decode (secsP gen seq p)).1 = p := by
  have hn : nChunks p.length ≤ 4096 := by unfold nChunks; omega
  have hn0 : 0 < nChunks p.length := by unfold nChunks; omega
  rcases Nat.eq_zero_or_pos seq with rfl | hs1
  · exfalso
    have e2 := secsP_at (gen := gen) (seq := 0) (p := p) (tail := []) hn0
    rw [List.append_nil] at e2
    have e := insp_sec0 (gen := gen) (part := 0) (parts := nChunks p.length) (chunk := chunkAt p 0) hg hn0 hn (chunkAt_bd hn0).2
    have := decErr_code e2 (by rw [e]; decide)
    rw [decode_err0 this, e] at hok
    exact absurd hok (by decide)
  · have hS : SecsOf gen seq p := ⟨hg, hs, hs1, h0, hn⟩
    obtain ⟨d1, d2, d3⟩ := secsP_dec hS []
    rw [List.append_nil] at d1 d2 d3
    have hd := decode_all (ss := secsP gen seq p) (by rw [d1]; exact d2)
    rw [d1, d3] at hd
    split at hd
    · rename_i hc
      rw [hd]
      have hv : (parseR p).vld = true := by
        have := hc.1
        simp only [parseOk, Bool.and_eq_true] at this
        exact this.2
      refine ⟨hv, ?_⟩
      have he := hc.2
      rw [encP, hv, if_pos rfl, sectors_secsP] at he
      have hl : (secsP gen seq p).length = nChunks p.length := by simp [secsP]
      rw [List.take_of_length_le (by omega)] at he
      obtain ⟨_, _, r3⟩ := secsP_dec (SecsOf.rec_ (parseR_ok p) hv) []
      rw [List.append_nil, he] at r3
      have hl2 := congrArg List.length he
      simp only [secsP, List.length_map, List.length_range] at hl2
      rw [hl2, d3] at r3
      exact r3.symm
    · rw [hd] at hok
      exact absurd hok (by decide)

end Go.Proofs.Ytbcmpfdhpefdbaa

namespace Go.Proofs.Ytbcmpfdhpefdbaa
open Go.RowKit

theorem decode_n {ss : List (List UInt8)} (h : (decode ss).2.2 = 0) : 1 ≤ (decode ss).2.1 ∧ (decode ss).2.1 ≤ ss.length := by
  unfold decode at h ⊢
  cases hf : (List.range (decParts ss)).findSome? (decErr ss) with
  | some c =>
    rw [hf] at h
    simp only at h
    obtain ⟨i, _, hi⟩ := List.exists_of_findSome?_eq_some hf
    subst h
    unfold decErr at hi
    split at hi
    · injection hi with hi; omega
    · split at hi
      · rename_i hc
        injection hi with hi
        exact absurd hi hc
      · split at hi
        · cases hi
        · injection hi with hi; omega
  | none =>
    have h0 : ∀ i, i < decParts ss → decErr ss i = none := fun i hi => List.findSome?_eq_none_iff.1 hf i (List.mem_range.2 hi)
    rw [hf] at h
    simp only at h ⊢
    split
    · exact ⟨(@decParts_le ss).2, decParts_len h0⟩
    · rename_i hc
      rw [if_neg hc] at h
      simp at h

/-- the next record of a log is there -/
def scanOk (ss : List (List UInt8)) (gen cnt : Nat) : Bool := decide ((decode ss).2.2 = 0 ∧ (decode ss).1.gen = gen ∧ (decode ss).1.seq = cnt + 1)
def scanF : Nat → List (List UInt8) → Nat → Nat → List Rec × Nat
  | 0, _, _, _ => ([], 0)
  | f + 1, ss, gen, cnt => if scanOk ss gen cnt then ((decode ss).1 :: (scanF f (ss.drop (decode ss).2.1) gen (cnt + 1)).1, (decode ss).2.1 + (scanF f (ss.drop (decode ss).2.1) gen (cnt + 1)).2) else ([], 0)
theorem scanOk_n {ss : List (List UInt8)} {gen cnt : Nat} (h : scanOk ss gen cnt = true) : 1 ≤ (decode ss).2.1 ∧ (decode ss).2.1 ≤ ss.length := decode_n (of_decide_eq_true h).1
theorem scanF_more : ∀ (f g : Nat) (ss : List (List UInt8)) (gen cnt : Nat), ss.length < f → ss.length < g → scanF f ss gen cnt = scanF g ss gen cnt
  | 0, _, _, _, _, h, _ => by omega
  | _ + 1, 0, _, _, _, _, h => by omega
  | f + 1, g + 1, ss, gen, cnt, hf, hg => by
    unfold scanF
    cases hk : scanOk ss gen cnt with
    | false => rfl
    | true =>
      have hn := scanOk_n hk
      have e := scanF_more f g (ss.drop (decode ss).2.1) gen (cnt + 1) (by rw [List.length_drop]; omega) (by rw [List.length_drop]; omega)
      rw [e]
/-- the records from here on, and how many sectors they take -/
def scanG (ss : List (List UInt8)) (gen cnt : Nat) : List Rec × Nat := scanF (ss.length + 1) ss gen cnt
theorem scanG_stop {ss : List (List UInt8)} {gen cnt : Nat} (h : scanOk ss gen cnt = false) : scanG ss gen cnt = ([], 0) := by
  unfold scanG scanF
  rw [h]
  rfl
theorem scanG_go {ss : List (List UInt8)} {gen cnt : Nat} (h : scanOk ss gen cnt = true) :
    scanG ss gen cnt = ((decode ss).1 :: (scanG (ss.drop (decode ss).2.1) gen (cnt + 1)).1, (decode ss).2.1 + (scanG (ss.drop (decode ss).2.1) gen (cnt + 1)).2) := by
  have hn := scanOk_n h
  have e : scanF ss.length (ss.drop (decode ss).2.1) gen (cnt + 1) = scanG (ss.drop (decode ss).2.1) gen (cnt + 1) := scanF_more _ _ _ _ _ (by rw [List.length_drop]; omega) (by omega)
  conv => lhs; unfold scanG scanF
  rw [h, if_pos rfl, e]
theorem scanOk_nil (gen cnt : Nat) : scanOk [] gen cnt = false := by
  have e : decode [] = (Rec.zero, 0, 5) := decode_err0 (decErr_absent (by simp))
  unfold scanOk
  rw [e]
  simp
/-- what Scan answers -/
def scan (ss : List (List UInt8)) (gen : Nat) : List Rec × Nat := scanG ss gen 0

end Go.Proofs.Ytbcmpfdhpefdbaa
