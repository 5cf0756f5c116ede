/- Reading a record from its payload, plainly. The two readings of a payload agree, plainly. What Decode answers, plainly. A record's sectors, whatever follows them, are read back, plainly. -/
import Derived.Test.YtbcmpfdhpefdbaaKE
import Derived.Test.YtbcmpfdhpefdbaaKB
import Derived.Test.YtbcmpfdhpefdbaaKI
import Derived.Test.YtbcmpfdhpefdbaaKF
set_option linter.unusedVariables false
set_option linter.unusedSimpArgs false
namespace Go.Proofs.Ytbcmpfdhpefdbaa

def rdPW (st : RS) : PW × RS :=
  (⟨((rCount 4096 st).1 : Nat), ((rCount 16 (rCount 4096 st).2).1 : Nat), (rUint (rCount 16 (rCount 4096 st).2).2).1, (rBlock (rUint (rCount 16 (rCount 4096 st).2).2).2).1⟩,
   (rBlock (rUint (rCount 16 (rCount 4096 st).2).2).2).2)
def rdMV (st : RS) : MV × RS :=
  (⟨((rCount 4096 st).1 : Nat), ((rCount 16 (rCount 4096 st).2).1 : Nat), (rInt (rCount 16 (rCount 4096 st).2).2).1, ((rCount 65536 (rInt (rCount 16 (rCount 4096 st).2).2).2).1 : Nat)⟩,
   (rCount 65536 (rInt (rCount 16 (rCount 4096 st).2).2).2).2)
/-- f, n times over -/
def rdN {α : Type} (f : RS → α × RS) : Nat → RS → List α × RS
  | 0, st => ([], st)
  | n + 1, st => ((rdN f n st).1 ++ [(f (rdN f n st).2).1], (f (rdN f n st).2).2)
theorem rdN_len {α : Type} (f : RS → α × RS) : ∀ n st, (rdN f n st).1.length = n
  | 0, _ => rfl
  | n + 1, st => by simp [rdN, rdN_len f n st]

def pGen (bs : List UInt8) := rUint (some bs)
def pSeq (bs : List UInt8) := rUint (pGen bs).2
def pNW (bs : List UInt8) := rCount 64 (pSeq bs).2
def pWs (bs : List UInt8) := rdN rdPW (pNW bs).1 (pNW bs).2
def pNM (bs : List UInt8) := rCount 64 (pWs bs).2
def pMs (bs : List UInt8) := rdN rdMV (pNM bs).1 (pNM bs).2
def pNt (bs : List UInt8) := rBytes (pMs bs).2
/-- the record that 'parse' reads, and whether it is taken -/
def parseR (bs : List UInt8) : Rec := ⟨(pGen bs).1, (pSeq bs).1, (pWs bs).1, (pMs bs).1, (pNt bs).1⟩
def parseOk (bs : List UInt8) : Bool := decide (rDone (pNt bs).2 = 0) && (parseR bs).vld

end Go.Proofs.Ytbcmpfdhpefdbaa

namespace Go.Proofs.Ytbcmpfdhpefdbaa
open Go.RowKit

def rdPW9 (st : RS) : PW × RS :=
  (⟨IntKind.i64.wrap ((rUint st).1 : Nat), IntKind.i64.wrap ((rUint (rUint st).2).1 : Nat), (rUint (rUint (rUint st).2).2).1, (rBlock (rUint (rUint (rUint st).2).2).2).1⟩,
   (rBlock (rUint (rUint (rUint st).2).2).2).2)
def rdMV9 (st : RS) : MV × RS :=
  (⟨IntKind.i64.wrap ((rUint st).1 : Nat), IntKind.i64.wrap ((rUint (rUint st).2).1 : Nat), (rInt (rUint (rUint st).2).2).1, IntKind.i64.wrap ((rUint (rInt (rUint (rUint st).2).2).2).1 : Nat)⟩,
   (rUint (rInt (rUint (rUint st).2).2).2).2)

theorem rCount_some {m : Nat} {st : RS} (h : (rCount m st).2 ≠ none) : rCount m st = rUint st ∧ (rUint st).1 ≤ m := by
  unfold rCount at h ⊢
  split at h
  · exact absurd rfl h
  · rename_i n rest e
    rw [e]
    split at h
    · rename_i hn; simp [hn]
    · exact absurd rfl h
theorem rUint_none {st : RS} (h : (rUint st).2 = none) : rUint st = (0, none) := by
  unfold rUint at h ⊢
  split
  · rfl
  · simp only at h
    split
    · rfl
    · rename_i e; rw [e] at h; simp at h
theorem rCount_fit {m : Nat} {st : RS} (h : (rUint st).1 ≤ m) : rCount m st = rUint st := by
  cases hs : (rUint st).2 with
  | none => rw [rUint_none hs]; unfold rCount; rw [rUint_none hs]
  | some rest =>
    have e : rUint st = ((rUint st).1, some rest) := by rw [← hs]
    unfold rCount
    rw [e]
    simp [h]
theorem rUint_of_none : rUint none = (0, none) := rfl
theorem rUint_ne {st : RS} (h : (rUint st).2 ≠ none) : st ≠ none := by rintro rfl; exact h rfl
theorem rCount_ne {m : Nat} {st : RS} (h : (rCount m st).2 ≠ none) : st ≠ none := by rintro rfl; exact h rfl
theorem rBlock_ne {st : RS} (h : (rBlock st).2 ≠ none) : st ≠ none := by rintro rfl; exact h rfl
theorem rBytes_ne {st : RS} (h : (rBytes st).2 ≠ none) : st ≠ none := by rintro rfl; exact h rfl
theorem rInt_eq (st : RS) : (rInt st).2 = (rUint st).2 := by
  unfold rInt
  split
  · rename_i h; rw [h]
  · rename_i h; rw [h]
theorem rInt_ne {st : RS} (h : (rInt st).2 ≠ none) : st ≠ none := by rintro rfl; exact h rfl
theorem rUint_nil {st : RS} (h : rLeft st = 0) : (rUint st).2 = none := by
  cases st with
  | none => rfl
  | some bs =>
    have : bs = [] := List.eq_nil_of_length_eq_zero h
    subst this
    rfl
theorem wrap_small {n : Nat} (h : n ≤ 65536) : IntKind.i64.wrap (n : Int) = n := by rw [IntKind.wrap_i64]; omega
theorem wrap_le {n m : Nat} (hn : n < 18446744073709551616) (hm : m ≤ 65536) (h0 : 0 ≤ IntKind.i64.wrap (n : Int)) (h1 : IntKind.i64.wrap (n : Int) ≤ m) : n ≤ m := by
  rw [IntKind.wrap_i64] at h0 h1; omega

theorem rdPW_of {st : RS} (h : (rdPW st).2 ≠ none) : rdPW st = rdPW9 st := by
  have h3 := rBlock_ne h
  have h2 := rUint_ne h3
  obtain ⟨e2, l2⟩ := rCount_some h2
  obtain ⟨e1, l1⟩ := rCount_some (rCount_ne h2)
  rw [e1] at e2 l2
  unfold rdPW rdPW9
  rw [e1, e2, wrap_small (by omega), wrap_small (by omega)]
theorem rdPW9_of {st : RS} (h : (rdPW9 st).1.vld = true) : rdPW st = rdPW9 st := by
  unfold PW.vld pieceB at h
  have h := of_decide_eq_true h
  simp only [rdPW9] at h
  have l1 : (rUint st).1 ≤ 4096 := wrap_le (rUint_bd _) (by omega) (by omega) (by omega)
  have l2 : (rUint (rUint st).2).1 ≤ 16 := wrap_le (rUint_bd _) (by omega) (by omega) (by omega)
  have e1 := rCount_fit l1
  have e2 := rCount_fit l2
  unfold rdPW rdPW9
  rw [e1, e2, wrap_small (by omega), wrap_small (by omega)]
theorem rdMV_of {st : RS} (h : (rdMV st).2 ≠ none) : rdMV st = rdMV9 st := by
  obtain ⟨e4, l4⟩ := rCount_some h
  have h3 := rCount_ne h
  have h2 := rInt_ne h3
  obtain ⟨e2, l2⟩ := rCount_some h2
  obtain ⟨e1, l1⟩ := rCount_some (rCount_ne h2)
  rw [e1] at e2 l2
  rw [e1, e2] at e4 l4
  unfold rdMV rdMV9
  rw [e1, e2, e4, wrap_small (by omega), wrap_small (by omega), wrap_small (by omega)]
theorem rdMV9_of {st : RS} (h : (rdMV9 st).1.vld = true) : rdMV st = rdMV9 st := by
  unfold MV.vld pieceB placeB at h
  rw [Bool.and_eq_true] at h
  obtain ⟨h, hp⟩ := h
  have h := of_decide_eq_true h
  simp only [rdMV9] at h
  have l1 : (rUint st).1 ≤ 4096 := wrap_le (rUint_bd _) (by omega) (by omega) (by omega)
  have l2 : (rUint (rUint st).2).1 ≤ 16 := wrap_le (rUint_bd _) (by omega) (by omega) (by omega)
  have l4 : (rUint (rInt (rUint (rUint st).2).2).2).1 ≤ 65536 := by
    split at hp
    · have hp := of_decide_eq_true hp
      simp only [rdMV9] at hp
      exact wrap_le (rUint_bd _) (by omega) (by omega) (by omega)
    · have hp := of_decide_eq_true hp
      simp only [rdMV9] at hp
      exact wrap_le (rUint_bd _) (by omega) (by omega) (by omega)
  have e1 := rCount_fit l1
  have e2 := rCount_fit l2
  have e4 := rCount_fit l4
  unfold rdMV rdMV9
  rw [e1, e2, e4, wrap_small (by omega), wrap_small (by omega), wrap_small (by omega)]

section
variable {α : Type} {f g : RS → α × RS}
theorem rdN_none (hf : (f none).2 = none) {st : RS} {j k : Nat} (h : (rdN f (j + k) st).2 ≠ none) : (rdN f j st).2 ≠ none := by
  induction k with
  | zero => exact h
  | succ k ih =>
    refine ih (fun e => h ?_)
    show (f (rdN f (j + k) st).2).2 = none
    rw [e, hf]
theorem rdN_same (hf : (f none).2 = none) (hfg : ∀ st, (f st).2 ≠ none → f st = g st) {st : RS} : ∀ n, (rdN f n st).2 ≠ none → rdN f n st = rdN g n st
  | 0, _ => rfl
  | n + 1, h => by
    have h0 : (rdN f n st).2 ≠ none := rdN_none hf (k := 1) h
    have e := rdN_same hf hfg n h0
    simp only [rdN]
    rw [hfg _ h, e]
theorem rdN_same9 (P : α → Bool) (hfg : ∀ st, P (g st).1 = true → f st = g st) {st : RS} : ∀ n, (rdN g n st).1.all P = true → rdN f n st = rdN g n st
  | 0, _ => rfl
  | n + 1, h => by
    simp only [rdN, List.all_append, Bool.and_eq_true] at h
    have e := rdN_same9 P hfg n h.1
    simp only [rdN]
    rw [e, hfg _ (by simpa using h.2)]
theorem rdN_st_none (hf : (f none).2 = none) : ∀ n, (rdN f n none).2 = none
  | 0 => rfl
  | n + 1 => by show (f (rdN f n none).2).2 = none; rw [rdN_st_none hf n, hf]
end
theorem rdPW_none : (rdPW none).2 = none := rfl
theorem rdMV_none : (rdMV none).2 = none := rfl
theorem rdPW_left0 {st : RS} (h : rLeft st = 0) : (rdPW st).2 = none := by
  have e : (rCount 4096 st).2 = none := by unfold rCount; rw [rUint_none (rUint_nil h)]
  show (rBlock (rUint (rCount 16 (rCount 4096 st).2).2).2).2 = none
  rw [e]; rfl
theorem rdMV_left0 {st : RS} (h : rLeft st = 0) : (rdMV st).2 = none := by
  have e : (rCount 4096 st).2 = none := by unfold rCount; rw [rUint_none (rUint_nil h)]
  show (rCount 65536 (rInt (rCount 16 (rCount 4096 st).2).2).2).2 = none
  rw [e]; rfl

/-- the reference's chain -/
def qNW (bs : List UInt8) := rUint (pSeq bs).2
def qWs (bs : List UInt8) := rdN rdPW9 (qNW bs).1 (qNW bs).2
def qNM (bs : List UInt8) := rUint (qWs bs).2
def qMs (bs : List UInt8) := rdN rdMV9 (qNM bs).1 (qNM bs).2
def qNt (bs : List UInt8) := rBytes (qMs bs).2
def parse9R (bs : List UInt8) : Rec := ⟨(pGen bs).1, (pSeq bs).1, (qWs bs).1, (qMs bs).1, (qNt bs).1⟩
def parse9Ok (bs : List UInt8) : Bool := decide (rDone (qNt bs).2 = 0) && (parse9R bs).vld
theorem rDone_ne {st : RS} (h : rDone st = 0) : st ≠ none := by rintro rfl; simp [rDone] at h

structure PChain (bs : List UInt8) : Prop where
  (nt : (pNt bs).2 ≠ none) (ms : (pMs bs).2 ≠ none) (nm : (pNM bs).2 ≠ none) (ws : (pWs bs).2 ≠ none) (nw : (pNW bs).2 ≠ none)
theorem PChain.of {bs : List UInt8} (h : (pNt bs).2 ≠ none) : PChain bs := by
  have h1 := rBytes_ne h
  have h2 : (pNM bs).2 ≠ none := by
    intro e
    exact h1 (by unfold pMs; rw [e]; exact rdN_st_none rdMV_none _)
  have h3 := rCount_ne h2
  have h4 : (pNW bs).2 ≠ none := by
    intro e
    exact h3 (by unfold pWs; rw [e]; exact rdN_st_none rdPW_none _)
  exact ⟨h, h1, h2, h3, h4⟩
structure PSame (bs : List UInt8) : Prop where
  (nw : pNW bs = qNW bs) (ws : pWs bs = qWs bs) (nm : pNM bs = qNM bs) (ms : pMs bs = qMs bs) (nt : pNt bs = qNt bs)
theorem PSame.of {bs : List UInt8} (h : PChain bs) : PSame bs := by
  have e1 : pNW bs = qNW bs := (rCount_some h.nw).1
  have e2 : pWs bs = qWs bs := by
    unfold pWs qWs
    rw [← e1]
    exact rdN_same rdPW_none (fun _ => rdPW_of) _ h.ws
  have e3 : pNM bs = qNM bs := by
    have := (rCount_some h.nm).1
    unfold qNM
    rw [← e2]
    exact this
  have e4 : pMs bs = qMs bs := by
    unfold pMs qMs
    rw [← e3]
    exact rdN_same rdMV_none (fun _ => rdMV_of) _ h.ms
  exact ⟨e1, e2, e3, e4, by unfold pNt qNt; rw [e4]⟩
theorem Rec.vld_parts {r : Rec} (h : r.vld = true) : (1 ≤ r.seq ∧ r.writes.length ≤ 64 ∧ r.moves.length ≤ 64 ∧ r.note.length ≤ 256) ∧ r.writes.all PW.vld = true ∧ r.moves.all MV.vld = true := by
  unfold Rec.vld at h
  rw [Bool.and_eq_true, Bool.and_eq_true] at h
  exact ⟨of_decide_eq_true h.1.1, h.1.2, h.2⟩
theorem PSame.of9 {bs : List UInt8} (h : (parse9R bs).vld = true) : PSame bs := by
  obtain ⟨⟨h0, h1, h2, h3⟩, hw, hm⟩ := Rec.vld_parts h
  simp only [parse9R] at h0 h1 h2 h3 hw hm
  have n1 : (qNW bs).1 ≤ 64 := by rw [qWs, rdN_len] at h1; exact h1
  have n2 : (qNM bs).1 ≤ 64 := by rw [qMs, rdN_len] at h2; exact h2
  have e1 : pNW bs = qNW bs := rCount_fit n1
  have e2 : pWs bs = qWs bs := by
    unfold pWs
    rw [e1]
    exact rdN_same9 PW.vld (fun _ => rdPW9_of) _ hw
  have e3 : pNM bs = qNM bs := by
    unfold pNM
    rw [e2]
    exact rCount_fit n2
  have e4 : pMs bs = qMs bs := by
    unfold pMs
    rw [e3]
    exact rdN_same9 MV.vld (fun _ => rdMV9_of) _ hm
  exact ⟨e1, e2, e3, e4, by unfold pNt qNt; rw [e4]⟩
theorem PSame.rec_ {bs : List UInt8} (h : PSame bs) : parseR bs = parse9R bs := by
  unfold parseR parse9R
  rw [h.ws, h.ms, h.nt]
theorem PSame.ok {bs : List UInt8} (h : PSame bs) : parseOk bs = parse9Ok bs := by
  unfold parseOk parse9Ok
  rw [h.rec_, h.nt]
/-- both loops ran to their ends -/
theorem parse9_ok (bs : List UInt8) : parse9Ok bs = parseOk bs := by
  cases hp : parseOk bs with
  | true =>
    have h := hp
    simp only [parseOk, Bool.and_eq_true, decide_eq_true_eq] at h
    rw [← (PSame.of (PChain.of (rDone_ne h.1))).ok, hp]
  | false =>
    cases h9 : parse9Ok bs with
    | false => rfl
    | true =>
      have h := h9
      simp only [parse9Ok, Bool.and_eq_true, decide_eq_true_eq] at h
      rw [← hp, (PSame.of9 h.2).ok, h9]
theorem parse9_rec {bs : List UInt8} (h : parseOk bs = true) : parse9R bs = parseR bs := by
  simp only [parseOk, Bool.and_eq_true, decide_eq_true_eq] at h
  exact ((PSame.of (PChain.of (rDone_ne h.1))).rec_).symm
/-- the first loop stopped before its end -/
theorem parse9_stopW {bs : List UInt8} {j : Nat} (hj : j < (qNW bs).1) (h0 : rLeft (rdN rdPW9 j (qNW bs).2).2 = 0) : parseOk bs = false := by
  cases hp : parseOk bs with
  | false => rfl
  | true =>
    exfalso
    simp only [parseOk, Bool.and_eq_true, decide_eq_true_eq] at hp
    have hc := PChain.of (rDone_ne hp.1)
    have hs := PSame.of hc
    have e : rdN rdPW j (pNW bs).2 = rdN rdPW9 j (qNW bs).2 := by
      rw [← hs.nw]
      refine rdN_same rdPW_none (fun _ => rdPW_of) _ (rdN_none rdPW_none (k := (pNW bs).1 - j) ?_)
      rw [hs.nw, show j + ((qNW bs).1 - j) = (qNW bs).1 from by omega, ← hs.nw]
      exact hc.ws
    have hn : (rdN rdPW (j + 1) (pNW bs).2).2 ≠ none := by
      refine rdN_none rdPW_none (k := (pNW bs).1 - (j + 1)) ?_
      rw [hs.nw, show j + 1 + ((qNW bs).1 - (j + 1)) = (qNW bs).1 from by omega, ← hs.nw]
      exact hc.ws
    exact hn (rdPW_left0 (by rw [e]; exact h0))
theorem parse9_stopM {bs : List UInt8} {j : Nat} (hj : j < (qNM bs).1) (h0 : rLeft (rdN rdMV9 j (qNM bs).2).2 = 0) : parseOk bs = false := by
  cases hp : parseOk bs with
  | false => rfl
  | true =>
    exfalso
    simp only [parseOk, Bool.and_eq_true, decide_eq_true_eq] at hp
    have hc := PChain.of (rDone_ne hp.1)
    have hs := PSame.of hc
    have e : rdN rdMV j (pNM bs).2 = rdN rdMV9 j (qNM bs).2 := by
      rw [← hs.nm]
      refine rdN_same rdMV_none (fun _ => rdMV_of) _ (rdN_none rdMV_none (k := (pNM bs).1 - j) ?_)
      rw [hs.nm, show j + ((qNM bs).1 - j) = (qNM bs).1 from by omega, ← hs.nm]
      exact hc.ms
    have hn : (rdN rdMV (j + 1) (pNM bs).2).2 ≠ none := by
      refine rdN_none rdMV_none (k := (pNM bs).1 - (j + 1)) ?_
      rw [hs.nm, show j + 1 + ((qNM bs).1 - (j + 1)) = (qNM bs).1 from by omega, ← hs.nm]
      exact hc.ms
    exact hn (rdMV_left0 (by rw [e]; exact h0))

end Go.Proofs.Ytbcmpfdhpefdbaa

namespace Go.Proofs.Ytbcmpfdhpefdbaa
open Go.RowKit

def Rec.zero : Rec := ⟨0, 0, [], [], []⟩
def decHd (ss : List (List UInt8)) : Ins := insp (ss[0]?.getD [])
/-- the error of sector i, given the first sector's numbers -/
def decErr (ss : List (List UInt8)) (i : Nat) : Option Int :=
  match ss[i]? with
  | none => some 5
  | some s => if (insp s).code ≠ 0 then some (insp s).code
    else if (insp s).gen = (decHd ss).gen ∧ (insp s).seq = (decHd ss).seq ∧ (insp s).part = i ∧ (insp s).parts = (decHd ss).parts then none else some 5
def decParts (ss : List (List UInt8)) : Nat := if decErr ss 0 = none then (decHd ss).parts else 1
def decAll (ss : List (List UInt8)) (j : Nat) : List UInt8 := (List.range j).flatMap (fun i => (insp (ss[i]?.getD [])).chunk)
def decode (ss : List (List UInt8)) : Rec × Nat × Int :=
  match (List.range (decParts ss)).findSome? (decErr ss) with
  | some c => (Rec.zero, 0, c)
  | none => if parseOk (decAll ss (decParts ss)) = true ∧ encP (parseR (decAll ss (decParts ss))) = ss.take (decParts ss) then (parseR (decAll ss (decParts ss)), decParts ss, 0) else (Rec.zero, 0, 5)

theorem insp_ok {b : List UInt8} (h : (insp b).code = 0) : (insp b).gen < 18446744073709551616 ∧ 1 ≤ (insp b).seq ∧ (insp b).seq < 18446744073709551616 ∧ (insp b).part < (insp b).parts ∧ (insp b).parts ≤ 4096 ∧ 1 ≤ (insp b).chunk.length ∧ (insp b).chunk.length ≤ 28 := by
  unfold insp at h ⊢
  split at h
  · simp [Ins.bad] at h
  · rename_i h1
    rw [if_neg h1]
    split at h
    · simp [Ins.bad] at h
    · rename_i h2
      rw [if_neg h2]
      split at h
      · simp [Ins.bad] at h
      · rename_i h3
        rw [if_neg h3]
        unfold insR at h ⊢
        split at h
        · simp [Ins.bad] at h
        · rename_i h4
          rw [if_neg h4]
          simp only [not_or, Nat.not_lt, Nat.not_le] at h4
          exact ⟨rUint_bd _, h4.2.1, rUint_bd _, h4.2.2.2.1, h4.2.2.1, h4.2.2.2.2.1, h4.2.2.2.2.2⟩
theorem decErr_none {ss : List (List UInt8)} {i : Nat} (h : decErr ss i = none) : ∃ s, ss[i]? = some s ∧ (insp s).code = 0 ∧ (insp s).gen = (decHd ss).gen ∧ (insp s).seq = (decHd ss).seq ∧ (insp s).part = i ∧ (insp s).parts = (decHd ss).parts := by
  unfold decErr at h
  split at h
  · cases h
  · rename_i s hs
    split at h
    · cases h
    · rename_i hc
      split at h
      · rename_i h4
        exact ⟨s, hs, by simpa using hc, h4⟩
      · cases h
theorem findSome_range {α : Type} (f : Nat → Option α) (n j : Nat) (c : α) (hj : j < n) (h0 : ∀ i, i < j → f i = none) (hc : f j = some c) : (List.range n).findSome? f = some c := by
  have e : n = j + (1 + (n - j - 1)) := by omega
  rw [e, List.range_add, List.findSome?_append, List.findSome?_eq_none_iff.2 (by intro x hx; exact h0 x (List.mem_range.1 hx))]
  rw [List.range_add, List.map_append, List.findSome?_append]
  simp [hc]
theorem decode_err {ss : List (List UInt8)} {j : Nat} {c : Int} (hj : j < decParts ss) (h0 : ∀ i, i < j → decErr ss i = none) (hc : decErr ss j = some c) : decode ss = (Rec.zero, 0, c) := by
  unfold decode
  rw [findSome_range _ _ _ _ hj h0 hc]
theorem decode_err0 {ss : List (List UInt8)} {c : Int} (hc : decErr ss 0 = some c) : decode ss = (Rec.zero, 0, c) :=
  decode_err (j := 0) (by rw [decParts, if_neg (by rw [hc]; simp)]; omega) (by omega) hc
theorem decode_all {ss : List (List UInt8)} (h0 : ∀ i, i < decParts ss → decErr ss i = none) : decode ss = if parseOk (decAll ss (decParts ss)) = true ∧ encP (parseR (decAll ss (decParts ss))) = ss.take (decParts ss) then (parseR (decAll ss (decParts ss)), decParts ss, 0) else (Rec.zero, 0, 5) := by
  unfold decode
  rw [List.findSome?_eq_none_iff.2 (by intro x hx; exact h0 x (List.mem_range.1 hx))]
theorem decErr_absent {ss : List (List UInt8)} {j : Nat} (h : ss.length ≤ j) : decErr ss j = some 5 := by
  unfold decErr
  rw [List.getElem?_eq_none h]
theorem decErr_code {ss : List (List UInt8)} {j : Nat} {s : List UInt8} (h : ss[j]? = some s) (hc : (insp s).code ≠ 0) : decErr ss j = some (insp s).code := by
  unfold decErr
  rw [h]
  simp [hc]
theorem decErr_diff {ss : List (List UInt8)} {j : Nat} {s : List UInt8} (h : ss[j]? = some s) (hc : (insp s).code = 0) (hd : ¬ ((insp s).gen = (decHd ss).gen ∧ (insp s).seq = (decHd ss).seq ∧ (insp s).part = j ∧ (insp s).parts = (decHd ss).parts)) : decErr ss j = some 5 := by
  unfold decErr
  rw [h]
  simp only [hc, ne_eq, not_true_eq_false, if_false, if_neg hd]
theorem decErr_fit {ss : List (List UInt8)} {j : Nat} {s : List UInt8} (h : ss[j]? = some s) (hc : (insp s).code = 0) (hd : (insp s).gen = (decHd ss).gen ∧ (insp s).seq = (decHd ss).seq ∧ (insp s).part = j ∧ (insp s).parts = (decHd ss).parts) : decErr ss j = none := by
  unfold decErr
  rw [h]
  simp only [hc, ne_eq, not_true_eq_false, if_false, if_pos hd]
theorem decAll_succ {ss : List (List UInt8)} {j : Nat} {s : List UInt8} (h : ss[j]? = some s) : decAll ss (j + 1) = decAll ss j ++ (insp s).chunk := by
  simp [decAll, List.range_succ, h]
theorem decAll_len {ss : List (List UInt8)} : ∀ j, (∀ i, i < j → decErr ss i = none) → (decAll ss j).length ≤ 28 * j
  | 0, _ => by simp [decAll]
  | j + 1, h => by
    obtain ⟨s, hs, hc, _⟩ := decErr_none (h j (by omega))
    have := decAll_len j (fun i hi => h i (by omega))
    have h2 := (insp_ok hc).2.2.2.2.2.2
    rw [decAll_succ hs, List.length_append]
    omega
theorem decParts_le {ss : List (List UInt8)} : decParts ss ≤ 4096 ∧ 1 ≤ decParts ss := by
  unfold decParts
  split
  · rename_i h
    obtain ⟨s, hs, hc, _⟩ := decErr_none h
    have := insp_ok hc
    rw [decHd, hs]
    simp only [Option.getD_some]
    omega
  · omega
theorem decParts_len {ss : List (List UInt8)} (h : ∀ i, i < decParts ss → decErr ss i = none) : decParts ss ≤ ss.length := by
  have h1 := (@decParts_le ss).2
  obtain ⟨s, hs, _⟩ := decErr_none (h (decParts ss - 1) (by omega))
  have := (List.getElem?_eq_some_iff.1 hs).1
  omega

end Go.Proofs.Ytbcmpfdhpefdbaa

namespace Go.Proofs.Ytbcmpfdhpefdbaa
open Go.RowKit

theorem decU_enc (n : Nat) : ∀ (i acc : Nat) (rest : List UInt8), n * 128 ^ i < 18446744073709551616 → (0 < i → n ≠ 0) → i ≤ 9 → decU i acc (enc n ++ rest) = some (acc + n * 128 ^ i, rest) := by
  induction n using Nat.strongRecOn with
  | ind n ih =>
    intro i acc rest hn h0 hi
    have h9 : i = 9 → n < 2 := by
      rintro rfl
      have e : (128 : Nat) ^ 9 = 9223372036854775808 := by decide
      rw [e] at hn
      omega
    by_cases h : n < 128
    · rw [enc_small h]
      have hc : (UInt8.ofNat n).toNat = n := by simp; omega
      simp only [List.cons_append, List.nil_append]
      rw [decU, hc, if_neg (by omega), if_pos h, if_neg (by omega), Nat.mod_eq_of_lt h]
    · rw [enc_big h]
      have hc : (UInt8.ofNat (n % 128 + 128)).toNat = n % 128 + 128 := by simp; omega
      simp only [List.cons_append]
      rw [decU, hc, if_neg (by omega), if_neg (by omega)]
      have hd : n / 128 * 128 ^ (i + 1) ≤ n * 128 ^ i := by
        rw [Nat.pow_succ, Nat.mul_comm (128 ^ i), ← Nat.mul_assoc]
        exact Nat.mul_le_mul_right _ (Nat.div_mul_le_self n 128)
      rw [ih (n / 128) (by omega) (i + 1) _ rest (by omega) (by omega) (by omega)]
      have e1 : (n % 128 + 128) % 128 = n % 128 := by omega
      have e2 : n / 128 * 128 ^ (i + 1) = 128 * (n / 128) * 128 ^ i := by
        rw [Nat.pow_succ, Nat.mul_comm (128 ^ i), ← Nat.mul_assoc, Nat.mul_comm (n / 128)]
      rw [e1, e2, Nat.add_assoc, ← Nat.add_mul, Nat.mod_add_div]
theorem rUint_enc {n : Nat} (h : n < 18446744073709551616) (rest : List UInt8) : rUint (some (enc n ++ rest)) = (n, some rest) := by
  unfold rUint
  simp only
  rw [decU_enc n 0 0 rest (by simpa using h) (by omega) (by omega)]
  simp
theorem rCount_enc {n m : Nat} (h : n ≤ m) (hn : n < 18446744073709551616) (rest : List UInt8) : rCount m (some (enc n ++ rest)) = (n, some rest) := by
  rw [rCount_fit (by rw [rUint_enc hn]; exact h), rUint_enc hn]
theorem zag_zig (d : Int) : zag (zig d) = d := by
  unfold zag zig
  split <;> split <;> omega
theorem rInt_enc {d : Int} (h : I64 d) (rest : List UInt8) : rInt (some (enc (zig d) ++ rest)) = (d, some rest) := by
  unfold rInt
  rw [rUint_enc (zig_lt h.1 h.2)]
  simp [zag_zig]
theorem rBlock_enc (x : B8) (rest : List UInt8) : rBlock (some (x.list ++ rest)) = (x, some rest) := by
  have : 8 ≤ (x.list ++ rest).length := by simp [B8.list]
  unfold rBlock
  simp only [if_pos this]
  simp [B8.of, B8.list]
theorem rBytes_enc {bs : List UInt8} (h : bs.length < 18446744073709551616) (rest : List UInt8) : rBytes (some (enc bs.length ++ (bs ++ rest))) = (bs, some rest) := by
  unfold rBytes
  rw [rUint_enc h]
  simp [rTake]
theorem i64_nat {g : Int} (h0 : 0 ≤ g) : ((g.toNat : Nat) : Int) = g := by omega
theorem rdPW_enc {p : PW} (h : p.Ok) (hv : p.vld = true) (rest : List UInt8) : rdPW (some (p.enc ++ rest)) = (p, some rest) := by
  unfold PW.vld pieceB at hv
  have hv := of_decide_eq_true hv
  have hver := h.v
  unfold U64 at hver
  have e1 : rCount 4096 (some (p.enc ++ rest)) = (p.group.toNat, some (enc p.piece.toNat ++ (enc p.version ++ (p.data.list ++ rest)))) := by
    unfold PW.enc
    simp only [List.append_assoc]
    exact rCount_enc (by omega) (by omega) _
  have e2 : rCount 16 (some (enc p.piece.toNat ++ (enc p.version ++ (p.data.list ++ rest)))) = (p.piece.toNat, some (enc p.version ++ (p.data.list ++ rest))) := rCount_enc (by omega) (by omega) _
  unfold rdPW
  rw [e1]
  simp only
  rw [e2]
  simp only
  rw [rUint_enc hver]
  simp only
  rw [rBlock_enc]
  simp only [i64_nat hv.1, i64_nat hv.2.2.1]
theorem rdMV_enc {p : MV} (h : p.Ok) (hv : p.vld = true) (rest : List UInt8) : rdMV (some (p.enc ++ rest)) = (p, some rest) := by
  unfold MV.vld pieceB placeB at hv
  rw [Bool.and_eq_true] at hv
  obtain ⟨hv, hb⟩ := hv
  have hv := of_decide_eq_true hv
  have hb2 : 0 ≤ p.block ∧ p.block ≤ 65536 := by
    split at hb
    · have := of_decide_eq_true hb; omega
    · have := of_decide_eq_true hb; omega
  have e1 : rCount 4096 (some (p.enc ++ rest)) = (p.group.toNat, some (enc p.piece.toNat ++ (enc (zig p.disk) ++ (enc p.block.toNat ++ rest)))) := by
    unfold MV.enc
    simp only [List.append_assoc]
    exact rCount_enc (by omega) (by omega) _
  have e2 : rCount 16 (some (enc p.piece.toNat ++ (enc (zig p.disk) ++ (enc p.block.toNat ++ rest)))) = (p.piece.toNat, some (enc (zig p.disk) ++ (enc p.block.toNat ++ rest))) := rCount_enc (by omega) (by omega) _
  have e4 : rCount 65536 (some (enc p.block.toNat ++ rest)) = (p.block.toNat, some rest) := rCount_enc (by omega) (by omega) _
  unfold rdMV
  rw [e1]
  simp only
  rw [e2]
  simp only
  rw [rInt_enc h.d]
  simp only
  rw [e4]
  simp only [i64_nat hv.1, i64_nat hv.2.2.1, i64_nat hb2.1]
theorem rdN_enc {α : Type} {f : RS → α × RS} {en : α → List UInt8} (ps : List α) (h : ∀ p ∈ ps, ∀ rest, f (some (en p ++ rest)) = (p, some rest)) (rest : List UInt8) :
    ∀ j, j ≤ ps.length → rdN f j (some (ps.flatMap en ++ rest)) = (ps.take j, some ((ps.drop j).flatMap en ++ rest))
  | 0, _ => by simp [rdN]
  | j + 1, hj => by
    have e := rdN_enc ps h rest j (by omega)
    have hx : ps[j]? = some ps[j] := List.getElem?_eq_getElem (by omega)
    have hd : ps.drop j = ps[j] :: ps.drop (j + 1) := List.drop_eq_getElem_cons (by omega)
    simp only [rdN]
    rw [e]
    simp only
    rw [hd, List.flatMap_cons, List.append_assoc, h _ (List.getElem_mem _), List.take_add_one, hx]
    simp
theorem rdN_enc_all {α : Type} {f : RS → α × RS} {en : α → List UInt8} (ps : List α) (h : ∀ p ∈ ps, ∀ rest, f (some (en p ++ rest)) = (p, some rest)) (rest : List UInt8) : rdN f ps.length (some (ps.flatMap en ++ rest)) = (ps, some rest) := by
  rw [rdN_enc ps h rest _ (Nat.le_refl _)]
  simp

theorem parse_payl {r : Rec} (ho : r.Ok) (hv : r.vld = true) : parseR (payl r) = r ∧ parseOk (payl r) = true := by
  have hv' := hv
  obtain ⟨⟨h0, h1, h2, h3⟩, hw, hm⟩ := Rec.vld_parts hv
  rw [List.all_eq_true] at hw hm
  have hg := ho.gen
  have hs := ho.seq
  unfold U64 at hg hs
  have e1 : pGen (payl r) = (r.gen, some (enc r.seq ++ (enc r.writes.length ++ (r.writes.flatMap PW.enc ++ (enc r.moves.length ++ (r.moves.flatMap MV.enc ++ (enc r.note.length ++ (r.note ++ [])))))))) := by
    unfold pGen payl
    simp only [List.append_assoc, List.append_nil]
    exact rUint_enc hg _
  have e2 : pSeq (payl r) = (r.seq, some (enc r.writes.length ++ (r.writes.flatMap PW.enc ++ (enc r.moves.length ++ (r.moves.flatMap MV.enc ++ (enc r.note.length ++ (r.note ++ []))))))) := by
    unfold pSeq
    rw [e1]
    exact rUint_enc hs _
  have e3 : pNW (payl r) = (r.writes.length, some (r.writes.flatMap PW.enc ++ (enc r.moves.length ++ (r.moves.flatMap MV.enc ++ (enc r.note.length ++ (r.note ++ [])))))) := by
    unfold pNW
    rw [e2]
    exact rCount_enc h1 (by omega) _
  have e4 : pWs (payl r) = (r.writes, some (enc r.moves.length ++ (r.moves.flatMap MV.enc ++ (enc r.note.length ++ (r.note ++ []))))) := by
    unfold pWs
    rw [e3]
    exact rdN_enc_all _ (fun p hp rest => rdPW_enc (ho.writes p hp) (hw p hp) rest) _
  have e5 : pNM (payl r) = (r.moves.length, some (r.moves.flatMap MV.enc ++ (enc r.note.length ++ (r.note ++ [])))) := by
    unfold pNM
    rw [e4]
    exact rCount_enc h2 (by omega) _
  have e6 : pMs (payl r) = (r.moves, some (enc r.note.length ++ (r.note ++ []))) := by
    unfold pMs
    rw [e5]
    exact rdN_enc_all _ (fun p hp rest => rdMV_enc (ho.moves p hp) (hm p hp) rest) _
  have e7 : pNt (payl r) = (r.note, some []) := by
    unfold pNt
    rw [e6]
    exact rBytes_enc (by omega) _
  have er : parseR (payl r) = r := by
    unfold parseR
    rw [e1, e2, e4, e6, e7]
  exact ⟨er, by unfold parseOk; rw [er, e7, hv']; rfl⟩

theorem insp_sec {gen seq part parts : Nat} {chunk : List UInt8} (hg : gen < 18446744073709551616) (hs : seq < 18446744073709551616) (h1 : 1 ≤ seq) (hp : part < parts) (hm : parts ≤ 4096) (hc0 : 1 ≤ chunk.length) (hc : chunk.length ≤ 28) :
    insp (sectorB gen seq part parts chunk) = ⟨gen, seq, part, parts, chunk, 0⟩ := by
  obtain ⟨body, hb⟩ : ∃ body, body = enc gen ++ (enc seq ++ (enc part ++ (enc parts ++ (enc chunk.length ++ (chunk ++ []))))) := ⟨_, rfl⟩
  have e0 : sectorB gen seq part parts chunk = sealB (82 :: body) := by
    unfold sectorB sectorH
    rw [hb]
    simp [List.append_assoc]
  rw [e0]
  have hl := sealB_len (82 :: body)
  have ht : (sealB (82 :: body)).take ((sealB (82 :: body)).length - 8) = 82 :: body := by
    rw [hl, Nat.add_sub_cancel]
    unfold sealB
    exact List.take_left' rfl
  have hn : body ≠ [] := by rw [hb]; simp [enc_ne]
  have hbl := List.length_pos_iff.2 hn
  unfold insp
  rw [if_neg (by
    rw [not_or]
    refine ⟨by rw [hl]; omega, ?_⟩
    unfold sealB
    simp), ht, if_neg (by simp), if_neg (by rw [hl, List.length_cons]; omega)]
  simp only [List.drop_succ_cons, List.drop_zero]
  have e1 : rUint (some body) = (gen, some (enc seq ++ (enc part ++ (enc parts ++ (enc chunk.length ++ (chunk ++ [])))))) := by rw [hb]; exact rUint_enc hg _
  have e2 := rUint_enc hs (enc part ++ (enc parts ++ (enc chunk.length ++ (chunk ++ []))))
  have e3 := rUint_enc (n := part) (by omega) (enc parts ++ (enc chunk.length ++ (chunk ++ [])))
  have e4 := rUint_enc (n := parts) (by omega) (enc chunk.length ++ (chunk ++ []))
  have e5 := rBytes_enc (bs := chunk) (by omega) []
  unfold insR
  simp only [e1, e2, e3, e4, e5]
  rw [if_neg (by
    simp only [not_or, Nat.not_lt, Nat.not_le]
    exact ⟨by simp [rDone], h1, hm, hp, hc0, hc⟩)]

theorem chunkAt_bd {p : List UInt8} {i : Nat} (h : i < nChunks p.length) : 1 ≤ (chunkAt p i).length ∧ (chunkAt p i).length ≤ 28 := by
  unfold nChunks at h
  simp only [chunkAt, List.length_take, List.length_drop]
  omega
theorem chunks_all (p : List UInt8) : ∀ j, j ≤ nChunks p.length → (List.range j).flatMap (fun i => chunkAt p i) = p.take (28 * j)
  | 0, _ => by simp
  | j + 1, h => by
    rw [List.range_succ, List.flatMap_append, chunks_all p j (by omega)]
    simp only [List.flatMap_cons, List.flatMap_nil, List.append_nil, chunkAt]
    rw [Nat.mul_add, List.take_add]
theorem chunks_whole (p : List UInt8) : (List.range (nChunks p.length)).flatMap (fun i => chunkAt p i) = p := by
  rw [chunks_all p _ (Nat.le_refl _)]
  exact List.take_of_length_le (by unfold nChunks; omega)

/-- the sectors of any payload p -/
structure SecsOf (gen seq : Nat) (p : List UInt8) : Prop where
  (g : gen < 18446744073709551616) (s : seq < 18446744073709551616) (s1 : 1 ≤ seq) (p0 : 1 ≤ p.length) (p1 : nChunks p.length ≤ 4096)
def secsP (gen seq : Nat) (p : List UInt8) : List (List UInt8) := (List.range (nChunks p.length)).map (fun i => sectorB gen seq i (nChunks p.length) (chunkAt p i))
theorem secsP_at {gen seq : Nat} {p : List UInt8} {tail : List (List UInt8)} {i : Nat} (h : i < nChunks p.length) : (secsP gen seq p ++ tail)[i]? = some (sectorB gen seq i (nChunks p.length) (chunkAt p i)) := by
  rw [List.getElem?_append_left (by simp [secsP, h])]
  simp [secsP, h]
theorem secsP_insp {gen seq : Nat} {p : List UInt8} (h : SecsOf gen seq p) {i : Nat} (hi : i < nChunks p.length) : insp (sectorB gen seq i (nChunks p.length) (chunkAt p i)) = ⟨gen, seq, i, nChunks p.length, chunkAt p i, 0⟩ :=
  insp_sec h.g h.s h.s1 hi h.p1 (chunkAt_bd hi).1 (chunkAt_bd hi).2
theorem secsP_dec {gen seq : Nat} {p : List UInt8} (h : SecsOf gen seq p) (tail : List (List UInt8)) :
    decParts (secsP gen seq p ++ tail) = nChunks p.length ∧ (∀ i, i < nChunks p.length → decErr (secsP gen seq p ++ tail) i = none) ∧ decAll (secsP gen seq p ++ tail) (nChunks p.length) = p := by
  have hn : 0 < nChunks p.length := by have := h.p0; unfold nChunks; omega
  have hd : decHd (secsP gen seq p ++ tail) = ⟨gen, seq, 0, nChunks p.length, chunkAt p 0, 0⟩ := by
    unfold decHd
    rw [secsP_at hn, Option.getD_some, secsP_insp h hn]
  have he : ∀ i, i < nChunks p.length → decErr (secsP gen seq p ++ tail) i = none := fun i hi => by
    have e := secsP_insp h hi
    refine decErr_fit (secsP_at hi) (by rw [e]) ?_
    rw [e, hd]
    exact ⟨rfl, rfl, rfl, rfl⟩
  refine ⟨by unfold decParts; rw [if_pos (he 0 hn), hd], he, ?_⟩
  conv => rhs; rw [← chunks_whole p]
  unfold decAll
  have hc : ∀ i, i < nChunks p.length → (insp ((secsP gen seq p ++ tail)[i]?.getD [])).chunk = chunkAt p i := fun i hi => by
    rw [secsP_at hi, Option.getD_some, secsP_insp h hi]
  generalize nChunks p.length = n at hc
  clear he hd hn
  induction n with
  | zero => rfl
  | succ n ih =>
    rw [List.range_succ, List.flatMap_append, List.flatMap_append, ih (fun i hi => hc i (by omega))]
    simp [hc n (by omega)]

theorem sectors_secsP (r : Rec) : sectors r = secsP r.gen r.seq (payl r) := rfl
theorem SecsOf.rec_ {r : Rec} (ho : r.Ok) (hv : r.vld = true) : SecsOf r.gen r.seq (payl r) := by
  have hl := payl_len ho (Rec.V.of hv)
  refine ⟨ho.gen, ho.seq, (Rec.vld_parts hv).1.1, ?_, by unfold nChunks; omega⟩
  have := List.length_pos_iff.2 (enc_ne r.gen)
  simp only [payl, List.length_append]
  omega
theorem sectors_len (r : Rec) : (sectors r).length = nChunks (payl r).length := secTo_len _ _ _

/-- the round trip -/
theorem decode_trip {r : Rec} (ho : r.Ok) (hv : r.vld = true) (tail : List (List UInt8)) : decode (sectors r ++ tail) = (r, (sectors r).length, 0) := by
  have h := SecsOf.rec_ ho hv
  obtain ⟨h1, h2, h3⟩ := secsP_dec h tail
  obtain ⟨p1, p2⟩ := parse_payl ho hv
  rw [decode_all (by rw [sectors_secsP, h1]; exact h2), sectors_secsP, h1, h3, p1, p2]
  rw [if_pos ⟨rfl, by
    rw [encP, hv, if_pos rfl, sectors_secsP]
    exact (List.take_left' (by simp [secsP])).symm⟩]
  simp [secsP]

end Go.Proofs.Ytbcmpfdhpefdbaa
