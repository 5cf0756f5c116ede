/- The two readings of a payload agree, plainly. -/
import Derived.Test.YtbcmpfdhpefdbaaParseP
import Derived.Test.YtbcmpfdhpefdbaaCodec2
set_option linter.unusedVariables false
set_option linter.unusedSimpArgs false
namespace Go.Proofs.Ytbcmpfdhpefdbaa
open Go.RowKit

def rdPW9 (st : RS) : PW × RS :=
  (⟨IntKind.i64.wrap ((rUint st).1 : Nat), IntKind.i64.wrap ((rUint (rUint st).2).1 : Nat), (rUint (rUint (rUint st).2).2).1, (rBlock (rUint (rUint (rUint st).2).2).2).1⟩,
   (rBlock (rUint (rUint (rUint st).2).2).2).2)
def rdMV9 (st : RS) : MV × RS :=
  (⟨IntKind.i64.wrap ((rUint st).1 : Nat), IntKind.i64.wrap ((rUint (rUint st).2).1 : Nat), (rInt (rUint (rUint st).2).2).1, IntKind.i64.wrap ((rUint (rInt (rUint (rUint st).2).2).2).1 : Nat)⟩,
   (rUint (rInt (rUint (rUint st).2).2).2).2)

theorem rCount_some {m : Nat} {st : RS} (h : (rCount m st).2 ≠ none) : rCount m st = rUint st ∧ (rUint st).1 ≤ m := by
  unfold rCount at h ⊢
  split at h
  · exact absurd rfl h
  · rename_i n rest e
    rw [e]
    split at h
    · rename_i hn; simp [hn]
    · exact absurd rfl h
theorem rUint_none {st : RS} (h : (rUint st).2 = none) : rUint st = (0, none) := by
  unfold rUint at h ⊢
  split
  · rfl
  · simp only at h
    split
    · rfl
    · rename_i e; rw [e] at h; simp at h
theorem rCount_fit {m : Nat} {st : RS} (h : (rUint st).1 ≤ m) : rCount m st = rUint st := by
  cases hs : (rUint st).2 with
  | none => rw [rUint_none hs]; unfold rCount; rw [rUint_none hs]
  | some rest =>
    have e : rUint st = ((rUint st).1, some rest) := by rw [← hs]
    unfold rCount
    rw [e]
    simp [h]
theorem rUint_of_none : rUint none = (0, none) := rfl
theorem rUint_ne {st : RS} (h : (rUint st).2 ≠ none) : st ≠ none := by rintro rfl; exact h rfl
theorem rCount_ne {m : Nat} {st : RS} (h : (rCount m st).2 ≠ none) : st ≠ none := by rintro rfl; exact h rfl
theorem rBlock_ne {st : RS} (h : (rBlock st).2 ≠ none) : st ≠ none := by rintro rfl; exact h rfl
theorem rBytes_ne {st : RS} (h : (rBytes st).2 ≠ none) : st ≠ none := by rintro rfl; exact h rfl
theorem rInt_eq (st : RS) : (rInt st).2 = (rUint st).2 := by
  unfold rInt
  split
  · rename_i h; rw [h]
  · rename_i h; rw [h]
theorem rInt_ne {st : RS} (h : (rInt st).2 ≠ none) : st ≠ none := by rintro rfl; exact h rfl
theorem rUint_nil {st : RS} (h : rLeft st = 0) : (rUint st).2 = none := by
  cases st with
  | none => rfl
  | some bs =>
    have : bs = [] := List.eq_nil_of_length_eq_zero h
    subst this
    rfl
theorem wrap_small {n : Nat} (h : n ≤ 65536) : IntKind.i64.wrap (n : Int) = n := by rw [IntKind.wrap_i64]; omega
theorem wrap_le {n m : Nat} (hn : n < 18446744073709551616) (hm : m ≤ 65536) (h0 : 0 ≤ IntKind.i64.wrap (n : Int)) (h1 : IntKind.i64.wrap (n : Int) ≤ m) : n ≤ m := by
  rw [IntKind.wrap_i64] at h0 h1; omega

theorem rdPW_of {st : RS} (h : (rdPW st).2 ≠ none) : rdPW st = rdPW9 st := by
  have h3 := rBlock_ne h
  have h2 := rUint_ne h3
  obtain ⟨e2, l2⟩ := rCount_some h2
  obtain ⟨e1, l1⟩ := rCount_some (rCount_ne h2)
  rw [e1] at e2 l2
  unfold rdPW rdPW9
  rw [e1, e2, wrap_small (by omega), wrap_small (by omega)]
theorem rdPW9_of {st : RS} (h : (rdPW9 st).1.vld = true) : rdPW st = rdPW9 st := by
  unfold PW.vld pieceB at h
  have h := of_decide_eq_true h
  simp only [rdPW9] at h
  have l1 : (rUint st).1 ≤ 4096 := wrap_le (rUint_bd _) (by omega) (by omega) (by omega)
  have l2 : (rUint (rUint st).2).1 ≤ 16 := wrap_le (rUint_bd _) (by omega) (by omega) (by omega)
  have e1 := rCount_fit l1
  have e2 := rCount_fit l2
  unfold rdPW rdPW9
  rw [e1, e2, wrap_small (by omega), wrap_small (by omega)]
theorem rdMV_of {st : RS} (h : (rdMV st).2 ≠ none) : rdMV st = rdMV9 st := by
  obtain ⟨e4, l4⟩ := rCount_some h
  have h3 := rCount_ne h
  have h2 := rInt_ne h3
  obtain ⟨e2, l2⟩ := rCount_some h2
  obtain ⟨e1, l1⟩ := rCount_some (rCount_ne h2)
  rw [e1] at e2 l2
  rw [e1, e2] at e4 l4
  unfold rdMV rdMV9
  rw [e1, e2, e4, wrap_small (by omega), wrap_small (by omega), wrap_small (by omega)]
theorem rdMV9_of {st : RS} (h : (rdMV9 st).1.vld = true) : rdMV st = rdMV9 st := by
  unfold MV.vld pieceB placeB at h
  rw [Bool.and_eq_true] at h
  obtain ⟨h, hp⟩ := h
  have h := of_decide_eq_true h
  simp only [rdMV9] at h
  have l1 : (rUint st).1 ≤ 4096 := wrap_le (rUint_bd _) (by omega) (by omega) (by omega)
  have l2 : (rUint (rUint st).2).1 ≤ 16 := wrap_le (rUint_bd _) (by omega) (by omega) (by omega)
  have l4 : (rUint (rInt (rUint (rUint st).2).2).2).1 ≤ 65536 := by
    split at hp
    · have hp := of_decide_eq_true hp
      simp only [rdMV9] at hp
      exact wrap_le (rUint_bd _) (by omega) (by omega) (by omega)
    · have hp := of_decide_eq_true hp
      simp only [rdMV9] at hp
      exact wrap_le (rUint_bd _) (by omega) (by omega) (by omega)
  have e1 := rCount_fit l1
  have e2 := rCount_fit l2
  have e4 := rCount_fit l4
  unfold rdMV rdMV9
  rw [e1, e2, e4, wrap_small (by omega), wrap_small (by omega), wrap_small (by omega)]

section
variable {α : Type} {f g : RS → α × RS}
theorem rdN_none (hf : (f none).2 = none) {st : RS} {j k : Nat} (h : (rdN f (j + k) st).2 ≠ none) : (rdN f j st).2 ≠ none := by
  induction k with
  | zero => exact h
  | succ k ih =>
    refine ih (fun e => h ?_)
    show (f (rdN f (j + k) st).2).2 = none
    rw [e, hf]
theorem rdN_same (hf : (f none).2 = none) (hfg : ∀ st, (f st).2 ≠ none → f st = g st) {st : RS} : ∀ n, (rdN f n st).2 ≠ none → rdN f n st = rdN g n st
  | 0, _ => rfl
  | n + 1, h => by
    have h0 : (rdN f n st).2 ≠ none := rdN_none hf (k := 1) h
    have e := rdN_same hf hfg n h0
    simp only [rdN]
    rw [hfg _ h, e]
theorem rdN_same9 (P : α → Bool) (hfg : ∀ st, P (g st).1 = true → f st = g st) {st : RS} : ∀ n, (rdN g n st).1.all P = true → rdN f n st = rdN g n st
  | 0, _ => rfl
  | n + 1, h => by
    simp only [rdN, List.all_append, Bool.and_eq_true] at h
    have e := rdN_same9 P hfg n h.1
    simp only [rdN]
    rw [e, hfg _ (by simpa using h.2)]
theorem rdN_st_none (hf : (f none).2 = none) : ∀ n, (rdN f n none).2 = none
  | 0 => rfl
  | n + 1 => by show (f (rdN f n none).2).2 = none; rw [rdN_st_none hf n, hf]
end
theorem rdPW_none : (rdPW none).2 = none := rfl
theorem rdMV_none : (rdMV none).2 = none := rfl
theorem rdPW_left0 {st : RS} (h : rLeft st = 0) : (rdPW st).2 = none := by
  have e : (rCount 4096 st).2 = none := by unfold rCount; rw [rUint_none (rUint_nil h)]
  show (rBlock (rUint (rCount 16 (rCount 4096 st).2).2).2).2 = none
  rw [e]; rfl
theorem rdMV_left0 {st : RS} (h : rLeft st = 0) : (rdMV st).2 = none := by
  have e : (rCount 4096 st).2 = none := by unfold rCount; rw [rUint_none (rUint_nil h)]
  show (rCount 65536 (rInt (rCount 16 (rCount 4096 st).2).2).2).2 = none
  rw [e]; rfl

/-- the reference's chain -/
def qNW (bs : List UInt8) := rUint (pSeq bs).2
def qWs (bs : List UInt8) := rdN rdPW9 (qNW bs).1 (qNW bs).2
def qNM (bs : List UInt8) := rUint (qWs bs).2
def qMs (bs : List UInt8) := rdN rdMV9 (qNM bs).1 (qNM bs).2
def qNt (bs : List UInt8) := rBytes (qMs bs).2
def parse9R (bs : List UInt8) : Rec := ⟨(pGen bs).1, (pSeq bs).1, (qWs bs).1, (qMs bs).1, (qNt bs).1⟩
def parse9Ok (bs : List UInt8) : Bool := decide (rDone (qNt bs).2 = 0) && (parse9R bs).vld
theorem rDone_ne {st : RS} (h : rDone st = 0) : st ≠ none := by rintro rfl; simp [rDone] at h

structure PChain (bs : List UInt8) : Prop where
  (nt : (pNt bs).2 ≠ none) (ms : (pMs bs).2 ≠ none) (nm : (pNM bs).2 ≠ none) (ws : (pWs bs).2 ≠ none) (nw : (pNW bs).2 ≠ none)
theorem PChain.of {bs : List UInt8} (h : (pNt bs).2 ≠ none) : PChain bs := by
  have h1 := rBytes_ne h
  have h2 : (pNM bs).2 ≠ none := by
    intro e
    exact h1 (by unfold pMs; rw [e]; exact rdN_st_none rdMV_none _)
  have h3 := rCount_ne h2
  have h4 : (pNW bs).2 ≠ none := by
    intro e
    exact h3 (by unfold pWs; rw [e]; exact rdN_st_none rdPW_none _)
  exact ⟨h, h1, h2, h3, h4⟩
structure PSame (bs : List UInt8) : Prop where
  (nw : pNW bs = qNW bs) (ws : pWs bs = qWs bs) (nm : pNM bs = qNM bs) (ms : pMs bs = qMs bs) (nt : pNt bs = qNt bs)
theorem PSame.of {bs : List UInt8} (h : PChain bs) : PSame bs := by
  have e1 : pNW bs = qNW bs := (rCount_some h.nw).1
  have e2 : pWs bs = qWs bs := by
    unfold pWs qWs
    rw [← e1]
    exact rdN_same rdPW_none (fun _ => rdPW_of) _ h.ws
  have e3 : pNM bs = qNM bs := by
    have := (rCount_some h.nm).1
    unfold qNM
    rw [← e2]
    exact this
  have e4 : pMs bs = qMs bs := by
    unfold pMs qMs
    rw [← e3]
    exact rdN_same rdMV_none (fun _ => rdMV_of) _ h.ms
  exact ⟨e1, e2, e3, e4, by unfold pNt qNt; rw [e4]⟩
theorem Rec.vld_parts {r : Rec} (h : r.vld = true) : (1 ≤ r.seq ∧ r.writes.length ≤ 64 ∧ r.moves.length ≤ 64 ∧ r.note.length ≤ 256) ∧ r.writes.all PW.vld = true ∧ r.moves.all MV.vld = true := by
  unfold Rec.vld at h
  rw [Bool.and_eq_true, Bool.and_eq_true] at h
  exact ⟨of_decide_eq_true h.1.1, h.1.2, h.2⟩
theorem PSame.of9 {bs : List UInt8} (h : (parse9R bs).vld = true) : PSame bs := by
  obtain ⟨⟨h0, h1, h2, h3⟩, hw, hm⟩ := Rec.vld_parts h
  simp only [parse9R] at h0 h1 h2 h3 hw hm
  have n1 : (qNW bs).1 ≤ 64 := by rw [qWs, rdN_len] at h1; exact h1
  have n2 : (qNM bs).1 ≤ 64 := by rw [qMs, rdN_len] at h2; exact h2
  have e1 : pNW bs = qNW bs := rCount_fit n1
  have e2 : pWs bs = qWs bs := by
    unfold pWs
    rw [e1]
    exact rdN_same9 PW.vld (fun _ => rdPW9_of) _ hw
  have e3 : pNM bs = qNM bs := by
    unfold pNM
    rw [e2]
    exact rCount_fit n2
  have e4 : pMs bs = qMs bs := by
    unfold pMs
    rw [e3]
    exact rdN_same9 MV.vld (fun _ => rdMV9_of) _ hm
  exact ⟨e1, e2, e3, e4, by unfold pNt qNt; rw [e4]⟩
theorem PSame.rec_ {bs : List UInt8} (h : PSame bs) : parseR bs = parse9R bs := by
  unfold parseR parse9R
  rw [h.ws, h.ms, h.nt]
theorem PSame.ok {bs : List UInt8} (h : PSame bs) : parseOk bs = parse9Ok bs := by
  unfold parseOk parse9Ok
  rw [h.rec_, h.nt]
/-- both loops ran to their ends -/
theorem parse9_ok (bs : List UInt8) : parse9Ok bs = parseOk bs := by
  cases hp : parseOk bs with
  | true =>
    have h := hp
    simp only [parseOk, Bool.and_eq_true, decide_eq_true_eq] at h
    rw [← (PSame.of (PChain.of (rDone_ne h.1))).ok, hp]
  | false =>
    cases h9 : parse9Ok bs with
    | false => rfl
    | true =>
      have h := h9
      simp only [parse9Ok, Bool.and_eq_true, decide_eq_true_eq] at h
      rw [← hp, (PSame.of9 h.2).ok, h9]
theorem parse9_rec {bs : List UInt8} (h : parseOk bs = true) : parse9R bs = parseR bs := by
  simp only [parseOk, Bool.and_eq_true, decide_eq_true_eq] at h
  exact ((PSame.of (PChain.of (rDone_ne h.1))).rec_).symm
/-- the first loop stopped before its end -/
theorem parse9_stopW {bs : List UInt8} {j : Nat} (hj : j < (qNW bs).1) (h0 : rLeft (rdN rdPW9 j (qNW bs).2).2 = 0) : parseOk bs = false := by
  cases hp : parseOk bs with
  | false => rfl
  | true =>
    exfalso
    simp only [parseOk, Bool.and_eq_true, decide_eq_true_eq] at hp
    have hc := PChain.of (rDone_ne hp.1)
    have hs := PSame.of hc
    have e : rdN rdPW j (pNW bs).2 = rdN rdPW9 j (qNW bs).2 := by
      rw [← hs.nw]
      refine rdN_same rdPW_none (fun _ => rdPW_of) _ (rdN_none rdPW_none (k := (pNW bs).1 - j) ?_)
      rw [hs.nw, show j + ((qNW bs).1 - j) = (qNW bs).1 from by omega, ← hs.nw]
      exact hc.ws
    have hn : (rdN rdPW (j + 1) (pNW bs).2).2 ≠ none := by
      refine rdN_none rdPW_none (k := (pNW bs).1 - (j + 1)) ?_
      rw [hs.nw, show j + 1 + ((qNW bs).1 - (j + 1)) = (qNW bs).1 from by omega, ← hs.nw]
      exact hc.ws
    exact hn (rdPW_left0 (by rw [e]; exact h0))
theorem parse9_stopM {bs : List UInt8} {j : Nat} (hj : j < (qNM bs).1) (h0 : rLeft (rdN rdMV9 j (qNM bs).2).2 = 0) : parseOk bs = false := by
  cases hp : parseOk bs with
  | false => rfl
  | true =>
    exfalso
    simp only [parseOk, Bool.and_eq_true, decide_eq_true_eq] at hp
    have hc := PChain.of (rDone_ne hp.1)
    have hs := PSame.of hc
    have e : rdN rdMV j (pNM bs).2 = rdN rdMV9 j (qNM bs).2 := by
      rw [← hs.nm]
      refine rdN_same rdMV_none (fun _ => rdMV_of) _ (rdN_none rdMV_none (k := (pNM bs).1 - j) ?_)
      rw [hs.nm, show j + ((qNM bs).1 - j) = (qNM bs).1 from by omega, ← hs.nm]
      exact hc.ms
    have hn : (rdN rdMV (j + 1) (pNM bs).2).2 ≠ none := by
      refine rdN_none rdMV_none (k := (pNM bs).1 - (j + 1)) ?_
      rw [hs.nm, show j + 1 + ((qNM bs).1 - (j + 1)) = (qNM bs).1 from by omega, ← hs.nm]
      exact hc.ms
    exact hn (rdMV_left0 (by rw [e]; exact h0))

end Go.Proofs.Ytbcmpfdhpefdbaa
