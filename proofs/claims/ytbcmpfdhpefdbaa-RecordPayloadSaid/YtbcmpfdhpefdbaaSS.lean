/- Lists of byte strings in memory: reading them, and rows of them of the call's own. -/
import Derived.Test.YtbcmpfdhpefdbaaPay27
set_option linter.unusedVariables false
set_option linter.unusedSimpArgs false
namespace Go.Proofs.Ytbcmpfdhpefdbaa
open Go.RowKit

/-- the cells xs are slices of bytes that read as ss, in blocks of F -/
def Elems (w : World) (F : Nat → Prop) (xs : List Value) (ss : List (List UInt8)) : Prop :=
  xs.length = ss.length ∧ ∀ (j : Nat) (s : List UInt8), ss[j]? = some s → ∃ (A : Option Addr) (c : Nat), xs[j]? = some (Value.slice A s.length c) ∧ s.length ≤ c ∧ c ≤ maxLen ∧ RdB w F A s.length s
theorem Elems.keep {w w' : World} {F : Nat → Prop} {xs : List Value} {ss : List (List UInt8)} (h : Elems w F xs ss) (hk : Kp F w w') : Elems w' F xs ss :=
  ⟨h.1, fun j s hs => by obtain ⟨A, c, h1, h2, h3, h4⟩ := h.2 j s hs; exact ⟨A, c, h1, h2, h3, h4.keep hk⟩⟩
theorem RdB.more {w : World} {F G : Nat → Prop} {A : Option Addr} {n : Nat} {bs : List UInt8} (h : RdB w F A n bs) (hg : ∀ k, F k → G k) : RdB w G A n bs := ⟨h.1, h.2.more hg⟩
theorem Elems.more {w : World} {F G : Nat → Prop} {xs : List Value} {ss : List (List UInt8)} (h : Elems w F xs ss) (hg : ∀ k, F k → G k) : Elems w G xs ss :=
  ⟨h.1, fun j s hs => by obtain ⟨A, c, h1, h2, h3, h4⟩ := h.2 j s hs; exact ⟨A, c, h1, h2, h3, h4.more hg⟩⟩
theorem Elems.snoc {w : World} {F : Nat → Prop} {xs : List Value} {ss : List (List UInt8)} (h : Elems w F xs ss) {A : Option Addr} {n c : Nat} {s : List UInt8} (hr : RdB w F A n s) (hc : n ≤ c) (hm : c ≤ maxLen) : Elems w F (xs ++ [.slice A n c]) (ss ++ [s]) := by
  refine ⟨by simp [h.1], fun j t ht => ?_⟩
  rcases Nat.lt_trichotomy j ss.length with hj | hj | hj
  · rw [List.getElem?_append_left hj] at ht
    obtain ⟨A', c', h1, h2⟩ := h.2 j t ht
    exact ⟨A', c', by rw [List.getElem?_append_left (by rw [h.1]; exact hj)]; exact h1, h2⟩
  · subst hj
    rw [List.getElem?_append_right (Nat.le_refl _), Nat.sub_self] at ht
    simp at ht; subst ht
    exact ⟨A, c, by rw [← h.1, List.getElem?_append_right (Nat.le_refl _), Nat.sub_self, ← hr.1]; rfl, by rw [← hr.1]; exact hc, hm, by rw [← hr.1]; exact hr⟩
  · rw [List.getElem?_eq_none (by simp; omega)] at ht; cases ht

/-- '.slice A n c' reads as ss -/
def RdS (w : World) (F : Nat → Prop) (A : Option Addr) (n : Nat) (ss : List (List UInt8)) : Prop := n = ss.length ∧ ∃ xs, Rd w F 1 A n xs ∧ Elems w F xs ss
theorem RdS.keep {w w' : World} {F : Nat → Prop} {A : Option Addr} {n : Nat} {ss : List (List UInt8)} (h : RdS w F A n ss) (hk : Kp F w w') : RdS w' F A n ss := by
  obtain ⟨h1, xs, h2, h3⟩ := h; exact ⟨h1, xs, h2.keep hk, h3.keep hk⟩
theorem RdS.more {w : World} {F G : Nat → Prop} {A : Option Addr} {n : Nat} {ss : List (List UInt8)} (h : RdS w F A n ss) (hg : ∀ k, F k → G k) : RdS w G A n ss := by
  obtain ⟨h1, xs, h2, h3⟩ := h; exact ⟨h1, xs, h2.more hg, h3.more hg⟩
theorem RdS.at_ {w : World} {F : Nat → Prop} {A : Option Addr} {n : Nat} {ss : List (List UInt8)} (h : RdS w F A n ss) {j : Nat} {s : List UInt8} (hs : ss[j]? = some s) :
    ∃ b o A' c, A = some ⟨b, o, none⟩ ∧ F b ∧ w.cell? ⟨b, o + j, none⟩ = some (.slice A' (List.length s) c) ∧ s.length ≤ c ∧ c ≤ maxLen ∧ RdB w F A' s.length s := by
  obtain ⟨h1, xs, h2, h3⟩ := h
  have hj : j < ss.length := (List.getElem?_eq_some_iff.1 hs).1
  obtain ⟨b, o, rfl, hF, hc⟩ := h2.2 (by omega)
  obtain ⟨A', c, e1, e2, e3, e4⟩ := h3.2 j s hs
  exact ⟨b, o, A', c, rfl, hF, hc j _ e1, e2, e3, e4⟩
theorem RdS.cut {w : World} {F : Nat → Prop} {A : Option Addr} {k : Nat} {ss : List (List UInt8)} (h : RdS w F A k ss) {n c : Nat} (hn : n ≤ k) (hc : k ≤ c) : RdS w F (cutA A c n 1) (k - n) (ss.drop n) := by
  obtain ⟨rfl, xs, h2, h3⟩ := h
  have := h2.cut hn hc
  rw [Nat.mul_one] at this
  refine ⟨by simp, xs.drop n, this, by simp [h3.1], fun j s hs => ?_⟩
  rw [List.getElem?_drop] at hs ⊢
  exact h3.2 _ s hs
theorem RdS.take_ {w : World} {F : Nat → Prop} {A : Option Addr} {k : Nat} {ss : List (List UInt8)} (h : RdS w F A k ss) {n : Nat} (hn : n ≤ k) : RdS w F A n (ss.take n) := by
  obtain ⟨rfl, xs, h2, h3⟩ := h
  have := h2.take_ hn
  rw [Nat.mul_one] at this
  refine ⟨by simp; omega, xs.take n, this, by simp [h3.1], fun j s hs => ?_⟩
  rw [List.getElem?_take] at hs ⊢
  split at hs
  · rename_i hj; rw [if_pos hj]; exact h3.2 _ s hs
  · cases hs

theorem info_s8 : (Try.prog.info? 25).map (fun i => (i.zero, i.size, i.bytes)) = some (some (.slice none 0 0), 1, 24) := by kernel_rfl

/-- v is a row of byte strings of the call's own (blocks from base on) that holds ss; its strings lie in F or in blocks from base on, none in the row's own block -/
def OwnS (base : Nat) (F : Nat → Prop) (w : World) (v : Value) (ss : List (List UInt8)) : Prop :=
  ∃ xs, w.ownsRow base 25 1 v ss.length xs ∧ Elems w (fun k => k < w.heap.size ∧ (F k ∨ base ≤ k) ∧ v.ownBlock ≠ some k) xs ss

section
variable {w w' : World} {base : Nat} {F : Nat → Prop} {v : Value} {ss : List (List UInt8)}
theorem OwnS.nil_ : OwnS base F w (.slice none 0 0) [] := ⟨[], World.ownsRow_nil w base _ 1, rfl, fun j s hs => by simp at hs⟩
theorem OwnS.form (h : OwnS base F w v ss) : ∃ A c, v = .slice A ss.length c ∧ ss.length ≤ c ∧ c ≤ maxLen := by obtain ⟨xs, h, _⟩ := h; exact own_slice h
theorem OwnS.rd {A : Option Addr} {n c : Nat} (h : OwnS base F w (.slice A n c) ss) : RdS w (fun k => k < w.heap.size ∧ (F k ∨ base ≤ k)) A n ss := by
  obtain ⟨A', c', hv, _, _⟩ := h.form
  injection hv with h1 h2 h3
  subst h1; subst h2; subst h3
  obtain ⟨xs, h1, h2⟩ := h
  exact ⟨rfl, xs, (Rd.of_own h1).more (fun k hk => ⟨hk.1, .inr hk.2⟩), h2.more (fun k hk => ⟨hk.1, hk.2.1⟩)⟩
theorem OwnS.lt (h : OwnS base F w v ss) : ∀ k, v.ownBlock = some k → base ≤ k ∧ k < w.heap.size := by obtain ⟨xs, h, _⟩ := h; exact World.ownsRow.lt h
/-- nothing that it hangs on has turned -/
theorem OwnS.keep (h : OwnS base F w v ss) (hz : w.heap.size ≤ w'.heap.size) (hk : ∀ k, k < w.heap.size → (F k ∨ base ≤ k) → w'.heap[k]? = w.heap[k]?) : OwnS base F w' v ss := by
  obtain ⟨xs, h1, h2⟩ := h
  refine ⟨xs, ⟨h1.1, ?_⟩, (h2.keep (fun k hk' => hk k hk'.1 hk'.2.1)).more (fun k hk => ⟨by have := hk.1; omega, hk.2⟩)⟩
  rcases h1.2 with hn | ⟨g, cap, cur, rfl, hb, hgg, rest⟩
  · exact .inl hn
  · refine .inr ⟨g, cap, cur, rfl, hb, ?_, rest⟩
    rw [hk g (Array.getElem?_eq_some_iff.1 hgg).1 (.inr hb)]
    exact hgg
theorem OwnS.below (h : OwnS base F w v ss) (hb : Below w.heap.size w w') : OwnS base F w' v ss := h.keep hb.size (fun k hk _ => hb.block k hk)
theorem OwnS.lower {base' : Nat} (h : OwnS base' F w v ss) (hb : base ≤ base') : OwnS base F w v ss := by
  obtain ⟨xs, h1, h2⟩ := h
  refine ⟨xs, ⟨h1.1, ?_⟩, h2.more (fun k hk => ⟨hk.1, by rcases hk.2.1 with h | h; exact .inl h; exact .inr (by omega), hk.2.2⟩)⟩
  rcases h1.2 with hn | ⟨g, cap, cur, rfl, hb', r⟩
  · exact .inl hn
  · exact .inr ⟨g, cap, cur, rfl, Nat.le_trans hb hb', r⟩
end

theorem rd_one (w : World) (t : TypeId) (x : Value) : Rd (w.alloc (.cells #[x] t)) (fun k => k = w.heap.size) 1 (some ⟨w.heap.size, 0, none⟩) 1 [x] :=
  ⟨rfl, fun _ => ⟨_, _, rfl, rfl, fun j u hu => by rw [← addr_add]; exact cell_one_new w x t j u hu⟩⟩

/-- the run of append(out, s) at rows of byte strings -/
theorem apS_core {base : Nat} {F : Nat → Prop} {w w0 : World} {v v' : Value} {w' : World} {ss : List (List UInt8)} {xs : List Value} {A : Option Addr} {n c : Nat} {s : List UInt8}
    (hz : w0.heap.size ≤ w.heap.size) (hold : ∀ k, k < w0.heap.size → w.heap[k]? = w0.heap[k]?)
    (h1 : w0.ownsRow base 25 1 v ss.length xs) (h2 : Elems w0 (fun k => k < w0.heap.size ∧ (F k ∨ base ≤ k) ∧ v.ownBlock ≠ some k) xs ss)
    (hr : RdB w0 (fun k => k < w0.heap.size ∧ (F k ∨ base ≤ k) ∧ v.ownBlock ≠ some k) A n s) (hc : n ≤ c) (hm : c ≤ maxLen)
    (hown' : w'.ownsRow base 25 1 v' (ss.length + 1) (xs ++ [.slice A n c])) (hg : w.grownBy w' v.ownBlock) (hat : v'.ownBlock = v.ownBlock ∨ v'.ownBlock = some w.heap.size) :
    OwnS base F w' v' (ss ++ [s]) := by
  refine ⟨_, by rw [List.length_append]; exact hown', ?_⟩
  have hkp : Kp (fun k => k < w0.heap.size ∧ (F k ∨ base ≤ k) ∧ v.ownBlock ≠ some k) w0 w' := fun k hk => (hg.block k (by have := hk.1; omega) (fun e => hk.2.2 e.symm)).trans (hold k hk.1)
  refine ((h2.snoc hr hc hm).keep hkp).more (fun k hk => ⟨by have := hg.size; have := hk.1; omega, hk.2.1, ?_⟩)
  rcases hat with e | e
  · rw [e]; exact hk.2.2
  · rw [e]; intro e'; injection e' with e'; have := hk.1; omega

/-- append(out, s): the string has been laid into a block of its own first -/
theorem wpList_apS {ops : Array Oper} {rest : List Oper} {o : Oper} {a : Act} {w : World} {Q : Exit → Act → World → Prop} (hgd : o.guard = none) (s x : Operand)
    (ho : o.op = .call { callee := .builtin .append, args := #[s, x], argTypes := #[30, 30] })
    (base : Nat) (F : Nat → Prop) (v : Value) (ss : List (List UInt8)) (hs : a.eval s = v) (hown : OwnS base F w v ss) (A : Option Addr) (n c c' : Nat) (t : List UInt8)
    (hx : a.eval x = .slice (some ⟨w.heap.size, 0, none⟩) 1 c') (hr : RdB w (fun k => k < w.heap.size ∧ (F k ∨ base ≤ k) ∧ v.ownBlock ≠ some k) A n t) (hc : n ≤ c) (hm : c ≤ maxLen)
    (hlen : ss.length + 1 ≤ 1000000000) (hbase : base ≤ w.heap.size)
    (h : ∀ v' w', OwnS base F w' v' (ss ++ [t]) → w.grownBy w' v.ownBlock → (v'.ownBlock = v.ownBlock ∨ v'.ownBlock = some (w.heap.size + 1)) → wpList Try.prog ops Q rest (a.put o.dst v') w') :
    wpList Try.prog ops Q (o :: rest) a (w.alloc (.cells #[.slice A n c] 25)) := by
  obtain ⟨i0, hi, hz0, hz1, hz2⟩ := info_parts info_s8
  obtain ⟨xs, h1, h2⟩ := hown
  refine wpList_append_any (w.alloc (.cells #[.slice A n c] 25)) hgd s x 30 ho base 25 i0 _ 1 24 Try.underlying30 hi hz0 hz1 hz2 rfl (by decide) v ss.length xs hs (h1.alloc _) _ _ 1 c' [.slice A n c] hx (rd_one w _ _) (by simp [Value.oneCell'])
    (by simp only [maxLen]; omega) (by omega) (by simp; omega) ?_
  intro v' w' e1 e2 e3
  exact h v' w' (apS_core (by simp) (fun k hk => Below.heap_alloc w _ k hk) h1 h2 hr hc hm e1 e2 e3) ((World.grownBy_alloc w _ _).trans e2) (by simpa using e3)

/-- the same in a region that draws its order, in whatever world that has the string's block -/
theorem step_apS {ops : Array Oper} {o : Oper} {a : Act} {w w0 : World} {K : Act → World → Prop} {Q : Exit → Act → World → Prop} {E : Prop} (hgd : o.guard = none) (s x : Operand)
    (ho : o.op = .call { callee := .builtin .append, args := #[s, x], argTypes := #[30, 30] })
    (base : Nat) (F : Nat → Prop) (v : Value) (ss : List (List UInt8)) (hs : a.eval s = v) (hown : OwnS base F w0 v ss) (A : Option Addr) (n c c' g : Nat) (t : List UInt8)
    (hx : a.eval x = .slice (some ⟨g, 0, none⟩) 1 c') (hg : Blk w g 25 #[.slice A n c]) (hz : w0.heap.size ≤ w.heap.size) (hold : ∀ k, k < w0.heap.size → w.heap[k]? = w0.heap[k]?)
    (hr : RdB w0 (fun k => k < w0.heap.size ∧ (F k ∨ base ≤ k) ∧ v.ownBlock ≠ some k) A n t) (hc : n ≤ c) (hm : c ≤ maxLen)
    (hlen : ss.length + 1 ≤ 1000000000) (hbase : base ≤ w.heap.size)
    (h : ∀ v' w', OwnS base F w' v' (ss ++ [t]) → w.grownBy w' v.ownBlock → (v'.ownBlock = v.ownBlock ∨ v'.ownBlock = some w.heap.size) → K (a.put o.dst v') w') :
    if Region.wanted o (yielded ops a.tmps) = true then Oper.wp Try.prog o a w K Q else E := by
  obtain ⟨i0, hi, hz0, hz1, hz2⟩ := info_parts info_s8
  obtain ⟨xs, h1, h2⟩ := hown
  have h1' : w.ownsRow base 25 1 v ss.length xs := by
    refine ⟨h1.1, ?_⟩
    rcases h1.2 with hn | ⟨g, cap, cur, rfl, hb, hgg, rest⟩
    · exact .inl hn
    · refine .inr ⟨g, cap, cur, rfl, hb, ?_, rest⟩
      rw [hold g (Array.getElem?_eq_some_iff.1 hgg).1]
      exact hgg
  refine step_append_any w hgd s x 30 ho base 25 i0 _ 1 24 Try.underlying30 hi hz0 hz1 hz2 rfl (by decide) v ss.length xs hs h1' (fun k => k = g) _ 1 c' [.slice A n c] hx
    ⟨rfl, fun _ => ⟨_, _, rfl, rfl, fun j u hu => by rw [Nat.zero_add, hg.cell]; simpa using hu⟩⟩ (by simp [Value.oneCell']) (by simp only [maxLen]; omega) (by omega) hbase ?_
  intro v' w' e1 e2 e3
  exact h v' w' (apS_core hz hold h1 h2 hr hc hm e1 e2 e3) e2 e3

end Go.Proofs.Ytbcmpfdhpefdbaa
