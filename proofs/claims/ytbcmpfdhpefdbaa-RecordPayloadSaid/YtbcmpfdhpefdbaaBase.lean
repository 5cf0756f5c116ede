/- Rows of bytes of the call's own, and the append onto them, at this translation's types. -/
import Derived.Test.YtbcmpfdhpefdbaaProg
import Derived.Test.YtbcmpfdhpefdbaaMem
import Derived.Test.YtbcmpfdhpefdbaaPure
import Derived.WalkKit
import Derived.WalkSpells
import Derived.WalkLawsBesides
import Derived.KernelRfl
set_option linter.unusedVariables false
set_option linter.unusedSimpArgs false
namespace Go.Proofs.Ytbcmpfdhpefdbaa
open Go.RowKit

theorem hid {p : Prop} (h : p) : Hid p := h

theorem info_u8 : (Try.prog.info? 5).map (fun i => (i.zero, i.size, i.bytes)) = some (some (.int .u8 0), 1, 1) := by kernel_rfl

def B (x : UInt8) : Value := .int .u8 (x.toNat : Int)
theorem B_one (bs : List UInt8) : ∀ u ∈ bs.map B, u.oneCell' = true := by
  intro u hu; obtain ⟨x, _, rfl⟩ := List.mem_map.1 hu; rfl

/-- v is a slice of bytes of the call's own (blocks from base on) that holds bs. -/
def OwnB (base : Nat) (w : World) (v : Value) (bs : List UInt8) : Prop := w.ownsRow base 5 1 v bs.length (bs.map B)
/-- The slice of bytes '.slice A n c' reads as bs; its block lies in F. -/
def RdB (w : World) (F : Nat → Prop) (A : Option Addr) (n : Nat) (bs : List UInt8) : Prop := n = bs.length ∧ Rd w F 1 A n (bs.map B)

/-- returns a slice of its own that holds bs -/
def RetB (base : Nat) (w : World) (bs : List UInt8) (e : Ending) (w' : World) : Prop :=
  ∃ v, e = .returned v ∧ OwnB base w' v bs ∧ Below base w w'

section
variable {w w' : World} {base : Nat} {v : Value} {bs : List UInt8}
theorem OwnB.nil_ : OwnB base w (.slice none 0 0) [] := World.ownsRow_nil w base _ 1
theorem OwnB.made (hb : base ≤ w.heap.size) : OwnB base (w.alloc (.cells #[] 5)) (.slice (some ⟨w.heap.size, 0, none⟩) 0 0) [] :=
  World.ownsRow_made w #[] 0 hb (by decide) rfl
theorem OwnB.made_drew (hb : base ≤ w.heap.size) : OwnB base (w.alloc (.cells #[] 5)).drew (.slice (some ⟨w.heap.size, 0, none⟩) 0 0) [] := OwnB.made hb
theorem OwnB.drew (h : OwnB base w v bs) : OwnB base w.drew v bs := h
theorem OwnB.drewN (h : OwnB base w v bs) (m : Nat) : OwnB base (w.drewN m) v bs := h
theorem OwnB.form (h : OwnB base w v bs) : ∃ A c, v = .slice A bs.length c ∧ bs.length ≤ c ∧ c ≤ maxLen := own_slice h
theorem OwnB.rd {A : Option Addr} {n c : Nat} (h : OwnB base w (.slice A n c) bs) : RdB w (fun k => k < w.heap.size ∧ base ≤ k) A n bs := by
  obtain ⟨A', c', hv, _, _⟩ := h.form
  injection hv with h1 h2 h3
  subst h1; subst h2; subst h3
  exact ⟨rfl, Rd.of_own h⟩
theorem OwnB.lt (h : OwnB base w v bs) : ∀ k, v.ownBlock = some k → base ≤ k ∧ k < w.heap.size := World.ownsRow.lt h
theorem OwnB.grown {row : Option Nat} (h : OwnB base w v bs) (hg : w.grownBy w' row) (hne : v.ownBlock = none ∨ v.ownBlock ≠ row) : OwnB base w' v bs := World.ownsRow.kept h hg hne
theorem OwnB.lower {base' : Nat} (h : OwnB base' w v bs) (hb : base ≤ base') : OwnB base w v bs := by
  refine ⟨h.1, ?_⟩
  rcases h.2 with h1 | ⟨g, cap, cur, e, hg, r⟩
  · exact .inl h1
  · exact .inr ⟨g, cap, cur, e, Nat.le_trans hb hg, r⟩
theorem OwnB.alloc (h : OwnB base w v bs) (o : Obj) : OwnB base (w.alloc o) v bs := World.ownsRow.alloc h o
theorem RdB.drew {F : Nat → Prop} {A : Option Addr} {n : Nat} (h : RdB w F A n bs) : RdB w.drew F A n bs := h
theorem RdB.drewN {F : Nat → Prop} {A : Option Addr} {n : Nat} (h : RdB w F A n bs) (m : Nat) : RdB (w.drewN m) F A n bs := h
theorem RdB.keep {F : Nat → Prop} {A : Option Addr} {n : Nat} (h : RdB w F A n bs) (hk : Kp F w w') : RdB w' F A n bs := ⟨h.1, h.2.keep hk⟩
end

theorem rdB_one (w : World) (x : Nat) (hx : x < 256) : RdB (w.alloc (.cells #[.int .u8 (x : Int)] 5)) (fun k => k = w.heap.size) (some ⟨w.heap.size, 0, none⟩) 1 [UInt8.ofNat x] :=
  ⟨rfl, by simp, fun _ => ⟨_, _, rfl, rfl, fun j u hu => by
    have := cell_one_new w (.int .u8 (x : Int)) 5 j u (by
      have e : B (UInt8.ofNat x) = .int .u8 (x : Int) := by simp [B, Nat.mod_eq_of_lt hx]
      simpa [e] using hu)
    rwa [addr_add] at this⟩⟩

/-- append(s, x...) at bytes: s is a row of the call's own. -/
theorem wpList_apB {ops : Array Oper} {rest : List Oper} {o : Oper} {a : Act} {w : World} {Q : Exit → Act → World → Prop} (hgd : o.guard = none) (s x : Operand)
    (ho : o.op = .call { callee := .builtin .append, args := #[s, x], argTypes := #[25, 25] })
    (base : Nat) (v : Value) (bs : List UInt8) (hs : a.eval s = v) (hown : OwnB base w v bs)
    (F : Nat → Prop) (A : Option Addr) (m c : Nat) (ys : List UInt8) (hx : a.eval x = .slice A m c) (hr : RdB w F A m ys)
    (hlen : bs.length + ys.length ≤ 1099511627776) (hbase : base ≤ w.heap.size)
    (h : ∀ v' w', OwnB base w' v' (bs ++ ys) → w.grownBy w' v.ownBlock → (v'.ownBlock = v.ownBlock ∨ v'.ownBlock = some w.heap.size) → wpList Try.prog ops Q rest (a.put o.dst v') w') :
    wpList Try.prog ops Q (o :: rest) a w := by
  obtain ⟨i0, hi, hz0, hz1, hz2⟩ := info_parts info_u8
  obtain ⟨rfl, hr⟩ := hr
  refine wpList_append_any w hgd s x 25 ho base 5 i0 _ 1 1 Try.underlying25 hi hz0 hz1 hz2 rfl (by decide) v bs.length _ hs hown F A ys.length c _ hx hr (B_one ys)
    (by simp only [maxLen]; omega) (by omega) hbase ?_
  intro v' w' h1 h2 h3
  refine h v' w' ?_ h2 h3
  unfold OwnB
  rw [List.length_append, List.map_append]
  exact h1

/-- the same as one step of a region that draws its order -/
theorem step_apB {ops : Array Oper} {o : Oper} {a : Act} {w : World} {K : Act → World → Prop} {Q : Exit → Act → World → Prop} {E : Prop} (hgd : o.guard = none) (s x : Operand)
    (ho : o.op = .call { callee := .builtin .append, args := #[s, x], argTypes := #[25, 25] })
    (base : Nat) (v : Value) (bs : List UInt8) (hs : a.eval s = v) (hown : OwnB base w v bs)
    (F : Nat → Prop) (A : Option Addr) (m c : Nat) (ys : List UInt8) (hx : a.eval x = .slice A m c) (hr : RdB w F A m ys)
    (hlen : bs.length + ys.length ≤ 1099511627776) (hbase : base ≤ w.heap.size)
    (h : ∀ v' w', OwnB base w' v' (bs ++ ys) → w.grownBy w' v.ownBlock → (v'.ownBlock = v.ownBlock ∨ v'.ownBlock = some w.heap.size) → K (a.put o.dst v') w') :
    if Region.wanted o (yielded ops a.tmps) = true then Oper.wp Try.prog o a w K Q else E := by
  obtain ⟨i0, hi, hz0, hz1, hz2⟩ := info_parts info_u8
  obtain ⟨rfl, hr⟩ := hr
  refine step_append_any w hgd s x 25 ho base 5 i0 _ 1 1 Try.underlying25 hi hz0 hz1 hz2 rfl (by decide) v bs.length _ hs hown F A ys.length c _ hx hr (B_one ys)
    (by simp only [maxLen]; omega) (by omega) hbase ?_
  intro v' w' h1 h2 h3
  refine h v' w' ?_ h2 h3
  unfold OwnB
  rw [List.length_append, List.map_append]
  exact h1

/-- A goal put by, so that the walk stops there. -/
def Mk (p : Prop) : Prop := p
theorem mk_stop {p : Prop} (h : Mk p) : p := h

/-- append(s, x) at bytes: s is a row of the call's own. -/
theorem wpList_apB1 {ops : Array Oper} {rest : List Oper} {o : Oper} {a : Act} {w : World} {Q : Exit → Act → World → Prop} {X : Int} (hgd : o.guard = none) (s x : Operand)
    (ho : o.op = .call { callee := .builtin .append, args := #[s, x], argTypes := #[25, 25] })
    (base : Nat) (v : Value) (bs : List UInt8) (hs : a.eval s = v) (hown : OwnB base w v bs) (c : Nat)
    (hx : a.eval x = .slice (some ⟨w.heap.size, 0, none⟩) 1 c) (b : Nat) (hb : b < 256) (hX : X = (b : Int))
    (hlen : bs.length + 1 ≤ 1099511627776) (hbase : base ≤ w.heap.size)
    (h : ∀ v' w', OwnB base w' v' (bs ++ [UInt8.ofNat b]) → w.grownBy w' v.ownBlock → (v'.ownBlock = v.ownBlock ∨ v'.ownBlock = some (w.heap.size + 1)) → wpList Try.prog ops Q rest (a.put o.dst v') w') :
    wpList Try.prog ops Q (o :: rest) a (w.alloc (.cells #[.int .u8 X] 5)) := by
  subst hX
  refine wpList_apB hgd s x ho base v bs hs (hown.alloc _) _ _ 1 c [UInt8.ofNat b] hx (rdB_one w b hb) (by simpa using hlen) (by simp; omega) ?_
  intro v' w' h1 h2 h3
  exact h v' w' h1 ((World.grownBy_alloc w _ _).trans h2) (by simpa using h3)

end Go.Proofs.Ytbcmpfdhpefdbaa
