/- The plain functions that the program and its reference both compute: primitive encodings. -/
import GoSem.Core.Value
set_option linter.unusedVariables false
set_option linter.unusedSimpArgs false
namespace Go.Proofs.Ytbcmpfdhpefdbaa

/-- A natural number's encoding: groups of seven bits, the lowest first. -/
def enc (n : Nat) : List UInt8 := if n < 128 then [UInt8.ofNat n] else UInt8.ofNat (n % 128 + 128) :: enc (n / 128)
termination_by n
decreasing_by omega
theorem enc_small {n : Nat} (h : n < 128) : enc n = [UInt8.ofNat n] := by rw [enc, if_pos h]
theorem enc_big {n : Nat} (h : ¬ n < 128) : enc n = UInt8.ofNat (n % 128 + 128) :: enc (n / 128) := by rw [enc, if_neg h]
theorem enc_len (m : Nat) : ∀ n, n < 128 ^ (m + 1) → (enc n).length ≤ m + 1 := by
  induction m with
  | zero => intro n h; rw [enc_small (by simpa using h)]; simp
  | succ m ih =>
    intro n h
    by_cases hn : n < 128
    · rw [enc_small hn]; simp
    · rw [enc_big hn]
      have := ih (n / 128) (by rw [Nat.div_lt_iff_lt_mul (by omega)]; rw [← Nat.pow_succ]; exact h)
      simp; omega
theorem enc_len10 {n : Nat} (h : n < 18446744073709551616) : (enc n).length ≤ 10 := enc_len 9 n (Nat.lt_of_lt_of_le h (by decide))
theorem enc_ne (n : Nat) : enc n ≠ [] := by
  by_cases h : n < 128
  · rw [enc_small h]; simp
  · rw [enc_big h]; simp

/-- The number that stands for an integer. -/
def zig (n : Int) : Nat := if 0 ≤ n then 2 * n.toNat else 2 * (-n - 1).toNat + 1
theorem zig_lt {n : Int} (h0 : -9223372036854775808 ≤ n) (h1 : n ≤ 9223372036854775807) : zig n < 18446744073709551616 := by
  unfold zig; split <;> omega
/-- The integer that a number stands for. -/
def zag (m : Nat) : Int := if m % 2 = 0 then ((m / 2 : Nat) : Int) else -((m / 2 : Nat) : Int) - 1

/-- Reads a number from group i on, acc being the value of the groups before. -/
def decU : Nat → Nat → List UInt8 → Option (Nat × List UInt8)
  | _, _, [] => none
  | i, acc, c :: rest =>
    if i = 9 ∧ 1 < c.toNat then none
    else if c.toNat < 128 then (if c.toNat = 0 ∧ 0 < i then none else some (acc + c.toNat % 128 * 128 ^ i, rest))
    else decU (i + 1) (acc + c.toNat % 128 * 128 ^ i) rest

/-- A reader: what has not been read; none behind an error. -/
abbrev RS := Option (List UInt8)
def rUint : RS → Nat × RS
  | none => (0, none)
  | some bs => match decU 0 0 bs with
    | none => (0, none)
    | some (n, rest) => (n, some rest)
/-- what is read from group i on -/
def uintFrom (i acc : Nat) : RS → Nat × RS
  | none => (0, none)
  | some bs => match decU i acc bs with
    | none => (0, none)
    | some (n, rest) => (n, some rest)
def rTake (n : Nat) : RS → List UInt8 × RS
  | none => ([], none)
  | some bs => if n ≤ bs.length then (bs.take n, some (bs.drop n)) else ([], none)
def rBytes (st : RS) : List UInt8 × RS := match rUint st with
  | (_, none) => ([], none)
  | (n, some rest) => rTake n (some rest)
def rCount (most : Nat) (st : RS) : Nat × RS := match rUint st with
  | (_, none) => (0, none)
  | (n, some rest) => if n ≤ most then (n, some rest) else (0, none)
def rInt (st : RS) : Int × RS := match rUint st with
  | (_, none) => (0, none)
  | (n, some rest) => (zag n, some rest)
/-- The eight bytes of a block. -/
structure B8 where
  (b0 b1 b2 b3 b4 b5 b6 b7 : UInt8)
  deriving DecidableEq
def B8.list (x : B8) : List UInt8 := [x.b0, x.b1, x.b2, x.b3, x.b4, x.b5, x.b6, x.b7]
def B8.of (l : List UInt8) : B8 := ⟨l[0]?.getD 0, l[1]?.getD 0, l[2]?.getD 0, l[3]?.getD 0, l[4]?.getD 0, l[5]?.getD 0, l[6]?.getD 0, l[7]?.getD 0⟩
def B8.zero : B8 := ⟨0, 0, 0, 0, 0, 0, 0, 0⟩
def rBlock : RS → B8 × RS
  | none => (B8.zero, none)
  | some bs => if 8 ≤ bs.length then (B8.of bs, some (bs.drop 8)) else (B8.zero, none)
def rLeft : RS → Nat
  | none => 0
  | some bs => bs.length
/-- The code of a step that leaves this reader. -/
def rErr : RS → Int
  | none => 5
  | some _ => 0
def rDone : RS → Int
  | some [] => 0
  | _ => 5

theorem decU_len {bs : List UInt8} : ∀ {i acc n rest}, decU i acc bs = some (n, rest) → rest.length < bs.length := by
  induction bs with
  | nil => intro i acc n rest h; simp [decU] at h
  | cons c bs ih =>
    intro i acc n rest h
    unfold decU at h
    split at h
    · cases h
    · split at h
      · split at h
        · cases h
        · simp only [Option.some.injEq, Prod.mk.injEq] at h; rw [← h.2]; simp
      · have := ih h; simp; omega
theorem decU_bd {bs : List UInt8} : ∀ {i acc n rest}, i ≤ 9 → acc < 128 ^ i → decU i acc bs = some (n, rest) → n < 18446744073709551616 := by
  induction bs with
  | nil => intro i acc n rest _ _ h; simp [decU] at h
  | cons c bs ih =>
    intro i acc n rest hi ha h
    unfold decU at h
    have hc := c.toNat_lt
    split at h
    · cases h
    · rename_i h9
      by_cases hi9 : i = 9
      · subst hi9
        have hc1 : c.toNat ≤ 1 := by omega
        rw [if_pos (by omega)] at h
        split at h
        · cases h
        · simp only [Option.some.injEq, Prod.mk.injEq] at h
          rw [← h.1]
          have e : (128 : Nat) ^ 9 = 9223372036854775808 := by decide
          rw [e] at ha ⊢
          have : c.toNat % 128 = c.toNat := by omega
          rw [this]
          rcases Nat.lt_or_ge c.toNat 1 with h0 | h0
          · have : c.toNat = 0 := by omega
            rw [this]; omega
          · have : c.toNat = 1 := by omega
            rw [this]; omega
      · have hp : acc + c.toNat % 128 * 128 ^ i < 128 ^ (i + 1) := by
          have h1 : c.toNat % 128 * 128 ^ i ≤ 127 * 128 ^ i := Nat.mul_le_mul_right _ (by omega)
          rw [Nat.pow_succ]; omega
        split at h
        · split at h
          · cases h
          · simp only [Option.some.injEq, Prod.mk.injEq] at h
            rw [← h.1]
            have : (128 : Nat) ^ (i + 1) ≤ 128 ^ 9 := Nat.pow_le_pow_right (by decide) (by omega)
            have e : (128 : Nat) ^ 9 = 9223372036854775808 := by decide
            omega
        · exact ih (by omega) hp h
theorem rUint_bd (st : RS) : (rUint st).1 < 18446744073709551616 := by
  unfold rUint
  split
  · decide
  · split
    · decide
    · rename_i h; exact decU_bd (by decide) (by decide) h

/-- One step of the sum's register. -/
def crcPoly : Nat := 14514072000185962306
def crcStep (x : Nat) : Nat := if x % 2 = 1 then (x / 2) ^^^ crcPoly else x / 2
def crcN : Nat → Nat → Nat
  | 0, x => x
  | k + 1, x => crcN k (crcStep x)
def crcUpd (x : Nat) : List UInt8 → Nat
  | [] => x
  | c :: r => crcUpd (crcN 8 (x ^^^ c.toNat)) r
/-- The sum of bytes. -/
def ones64 : Nat := 18446744073709551615
def crcSum (bs : List UInt8) : Nat := ones64 - crcUpd ones64 bs
theorem ones64_lt : ones64 < 18446744073709551616 := by decide
theorem crcSum_lt (bs : List UInt8) : crcSum bs < 18446744073709551616 := by unfold crcSum; have := ones64_lt; omega
theorem xor_lt64 {x y : Nat} (hx : x < 18446744073709551616) (hy : y < 18446744073709551616) : x ^^^ y < 18446744073709551616 := by
  have := Nat.xor_lt_two_pow (n := 64) (x := x) (y := y) (by omega) (by omega)
  omega
theorem crcStep_lt {x : Nat} (h : x < 18446744073709551616) : crcStep x < 18446744073709551616 := by
  unfold crcStep
  split
  · exact xor_lt64 (by omega) (by decide)
  · omega
theorem crcN_lt : ∀ k {x : Nat}, x < 18446744073709551616 → crcN k x < 18446744073709551616
  | 0, _, h => h
  | k + 1, _, h => crcN_lt k (crcStep_lt h)
theorem crcN_succ : ∀ k x, crcN (k + 1) x = crcStep (crcN k x)
  | 0, _ => rfl
  | k + 1, x => crcN_succ k (crcStep x)
theorem crcUpd_lt {x : Nat} (h : x < 18446744073709551616) (bs : List UInt8) : crcUpd x bs < 18446744073709551616 := by
  induction bs generalizing x with
  | nil => exact h
  | cons c r ih => exact ih (crcN_lt 8 (xor_lt64 h (by have := c.toNat_lt; omega)))
theorem crcUpd_append (x : Nat) (a b : List UInt8) : crcUpd x (a ++ b) = crcUpd (crcUpd x a) b := by
  induction a generalizing x with
  | nil => rfl
  | cons c r ih => exact ih _
theorem crcUpd_snoc (x : Nat) (bs : List UInt8) (k : Nat) (c : UInt8) (h : bs[k]? = some c) : crcUpd x (bs.take (k + 1)) = crcN 8 (crcUpd x (bs.take k) ^^^ c.toNat) := by
  rw [List.take_add_one, h, crcUpd_append]; rfl
/-- A number's eight bytes, the most significant one first. -/
def be8b (n q : Nat) : Nat := n / 2 ^ (56 - 8 * q) % 256
def be8 (n : Nat) : List UInt8 := (List.range 8).map fun q => UInt8.ofNat (be8b n q)
def be8To (n q : Nat) : List UInt8 := (List.range q).map fun q => UInt8.ofNat (be8b n q)
theorem be8To_succ (n q : Nat) : be8To n (q + 1) = be8To n q ++ [UInt8.ofNat (be8b n q)] := by simp [be8To, List.range_succ]
theorem be8b_lt (n q : Nat) : be8b n q < 256 := Nat.mod_lt _ (by decide)
theorem be8To_len (n q : Nat) : (be8To n q).length = q := by simp [be8To]
/-- Bytes followed by their sum. -/
def sealB (bs : List UInt8) : List UInt8 := bs ++ be8 (crcSum bs)
theorem sealB_len (bs : List UInt8) : (sealB bs).length = bs.length + 8 := by simp [sealB, be8]

theorem uintFrom_big {j a : Nat} {x : UInt8} {bs : List UInt8} (h : 128 ≤ x.toNat) (hj : j < 9) : uintFrom j a (some (x :: bs)) = uintFrom (j + 1) (a + x.toNat % 128 * 128 ^ j) (some bs) := by
  simp only [uintFrom]
  rw [decU, if_neg (by omega), if_neg (by omega)]
theorem uintFrom_ret {j a : Nat} {x : UInt8} {bs : List UInt8} (h : x.toNat < 128) (hj : j ≤ 9) (h9 : j = 9 → x.toNat ≤ 1) (h0 : x.toNat ≠ 0 ∨ j = 0) :
    uintFrom j a (some (x :: bs)) = (a + x.toNat % 128 * 128 ^ j, some bs) := by
  simp only [uintFrom]
  rw [decU, if_neg (by omega), if_pos h, if_neg (by omega)]
theorem uintFrom_bad {j a : Nat} {x : UInt8} {bs : List UInt8} (h : (j = 9 ∧ 1 < x.toNat) ∨ (x.toNat = 0 ∧ 0 < j)) : uintFrom j a (some (x :: bs)) = (0, none) := by
  simp only [uintFrom]
  rw [decU]
  by_cases h9 : j = 9 ∧ 1 < x.toNat
  · rw [if_pos h9]
  · rw [if_neg h9, if_pos (by omega), if_pos (by omega)]
theorem uintFrom_nil (j a : Nat) : uintFrom j a (some []) = (0, none) := by simp [uintFrom, decU]
theorem uintFrom_zero (st : RS) : uintFrom 0 0 st = rUint st := by cases st <;> rfl

end Go.Proofs.Ytbcmpfdhpefdbaa
