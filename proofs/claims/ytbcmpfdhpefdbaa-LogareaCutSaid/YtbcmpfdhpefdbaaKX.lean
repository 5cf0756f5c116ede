/- Appending lists of byte strings; rows of them made and stored into. Lists of records in memory: reading them, and rows of them of the call's own. Lists of lists of records in memory; appending a list of records. -/
import Derived.Test.YtbcmpfdhpefdbaaKF
import Derived.Test.YtbcmpfdhpefdbaaKW
set_option linter.unusedVariables false
set_option linter.unusedSimpArgs false
namespace Go.Proofs.Ytbcmpfdhpefdbaa
open Go.RowKit
attribute [local irreducible] Go.Calls

theorem Elems.append {w : World} {F : Nat → Prop} {xs ys : List Value} {ss ts : List (List UInt8)} (h : Elems w F xs ss) (k : Elems w F ys ts) : Elems w F (xs ++ ys) (ss ++ ts) := by
  refine ⟨by simp [h.1, k.1], fun j s hs => ?_⟩
  rcases Nat.lt_or_ge j ss.length with hj | hj
  · rw [List.getElem?_append_left hj] at hs
    obtain ⟨A, c, e, r⟩ := h.2 j s hs
    exact ⟨A, c, by rw [List.getElem?_append_left (by rw [h.1]; exact hj)]; exact e, r⟩
  · rw [List.getElem?_append_right hj] at hs
    obtain ⟨A, c, e, r⟩ := k.2 _ s hs
    exact ⟨A, c, by rw [List.getElem?_append_right (by rw [h.1]; exact hj), h.1]; exact e, r⟩
theorem Elems.one {w : World} {F : Nat → Prop} {xs : List Value} {ss : List (List UInt8)} (h : Elems w F xs ss) : ∀ u ∈ xs, u.oneCell' = true := by
  intro u hu
  obtain ⟨j, hj, rfl⟩ := List.mem_iff_getElem.1 hu
  have hs : ss[j]? = some (ss[j]'(by rw [← h.1]; exact hj)) := List.getElem?_eq_getElem _
  obtain ⟨A, c, e, _⟩ := h.2 j _ hs
  rw [List.getElem?_eq_getElem hj] at e
  injection e with e
  rw [e]
  rfl

/-- append(out, l...) -/
theorem wpList_apSs {ops : Array Oper} {rest : List Oper} {o : Oper} {a : Act} {w : World} {Q : Exit → Act → World → Prop} (hgd : o.guard = none) (s x : Operand)
    (ho : o.op = .call { callee := .builtin .append, args := #[s, x], argTypes := #[30, 30] })
    (base : Nat) (F : Nat → Prop) (v : Value) (ss : List (List UInt8)) (hs : a.eval s = v) (hown : OwnS base F w v ss) (G : Nat → Prop) (A : Option Addr) (m c : Nat) (ts : List (List UInt8))
    (hx : a.eval x = .slice A m c) (hr : RdS w G A m ts) (hG : ∀ k, G k → k < w.heap.size ∧ (F k ∨ base ≤ k) ∧ v.ownBlock ≠ some k)
    (hlen : ss.length + ts.length ≤ 1000000000) (hbase : base ≤ w.heap.size)
    (h : ∀ v' w', OwnS base F w' v' (ss ++ ts) → w.grownBy w' v.ownBlock → (v'.ownBlock = v.ownBlock ∨ v'.ownBlock = some w.heap.size) → wpList Try.prog ops Q rest (a.put o.dst v') w') :
    wpList Try.prog ops Q (o :: rest) a w := by
  obtain ⟨i0, hi, hz0, hz1, hz2⟩ := info_parts info_s8
  obtain ⟨xs, h1, h2⟩ := hown
  obtain ⟨hm, ys, h3, h4⟩ := hr
  refine wpList_append_any w hgd s x 30 ho base 25 i0 _ 1 24 Try.underlying30 hi hz0 hz1 hz2 rfl (by decide) v ss.length xs hs h1 G A m c ys hx h3 h4.one
    (by simp only [maxLen]; omega) (by omega) hbase ?_
  intro v' w' e1 e2 e3
  refine h v' w' ⟨xs ++ ys, by rw [List.length_append, ← hm]; exact e1, ?_⟩ e2 e3
  have hkp : Kp (fun k => k < w.heap.size ∧ (F k ∨ base ≤ k) ∧ v.ownBlock ≠ some k) w w' := fun k hk => e2.block k hk.1 (fun e => hk.2.2 e.symm)
  refine ((h2.append (h4.more hG)).keep hkp).more (fun k hk => ⟨by have := e2.size; have := hk.1; omega, hk.2.1, ?_⟩)
  rcases e3 with e | e
  · rw [e]; exact hk.2.2
  · rw [e]; intro e'; injection e' with e'; have := hk.1; omega

/-- the same as one step of a region that draws its order -/
theorem step_apSs {ops : Array Oper} {o : Oper} {a : Act} {w : World} {K : Act → World → Prop} {Q : Exit → Act → World → Prop} {E : Prop} (hgd : o.guard = none) (s x : Operand)
    (ho : o.op = .call { callee := .builtin .append, args := #[s, x], argTypes := #[30, 30] })
    (base : Nat) (F : Nat → Prop) (v : Value) (ss : List (List UInt8)) (hs : a.eval s = v) (hown : OwnS base F w v ss) (G : Nat → Prop) (A : Option Addr) (m c : Nat) (ts : List (List UInt8))
    (hx : a.eval x = .slice A m c) (hr : RdS w G A m ts) (hG : ∀ k, G k → k < w.heap.size ∧ (F k ∨ base ≤ k) ∧ v.ownBlock ≠ some k)
    (hlen : ss.length + ts.length ≤ 1000000000) (hbase : base ≤ w.heap.size)
    (h : ∀ v' w', OwnS base F w' v' (ss ++ ts) → w.grownBy w' v.ownBlock → (v'.ownBlock = v.ownBlock ∨ v'.ownBlock = some w.heap.size) → K (a.put o.dst v') w') :
    if Region.wanted o (yielded ops a.tmps) = true then Oper.wp Try.prog o a w K Q else E := by
  obtain ⟨i0, hi, hz0, hz1, hz2⟩ := info_parts info_s8
  obtain ⟨xs, h1, h2⟩ := hown
  obtain ⟨hm, ys, h3, h4⟩ := hr
  refine step_append_any w hgd s x 30 ho base 25 i0 _ 1 24 Try.underlying30 hi hz0 hz1 hz2 rfl (by decide) v ss.length xs hs h1 G A m c ys hx h3 h4.one
    (by simp only [maxLen]; omega) (by omega) hbase ?_
  intro v' w' e1 e2 e3
  refine h v' w' ⟨xs ++ ys, by rw [List.length_append, ← hm]; exact e1, ?_⟩ e2 e3
  have hkp : Kp (fun k => k < w.heap.size ∧ (F k ∨ base ≤ k) ∧ v.ownBlock ≠ some k) w w' := fun k hk => e2.block k hk.1 (fun e => hk.2.2 e.symm)
  refine ((h2.append (h4.more hG)).keep hkp).more (fun k hk => ⟨by have := e2.size; have := hk.1; omega, hk.2.1, ?_⟩)
  rcases e3 with e | e
  · rw [e]; exact hk.2.2
  · rw [e]; intro e'; injection e' with e'; have := hk.1; omega

/-- an empty row made -/
theorem OwnS.made {w : World} {base : Nat} {F : Nat → Prop} (hb : base ≤ w.heap.size) : OwnS base F (w.alloc (.cells #[] 25)) (.slice (some ⟨w.heap.size, 0, none⟩) 0 0) [] :=
  ⟨[], World.ownsRow_made w #[] 0 hb (by decide) rfl, rfl, fun j s hs => by simp at hs⟩

/-- the element k is stored anew -/
theorem OwnS.set_ {w : World} {base : Nat} {F : Nat → Prop} {b o n c : Nat} {ss : List (List UInt8)} (h : OwnS base F w (.slice (some ⟨b, o, none⟩) n c) ss) {k : Nat} (hk : k < ss.length) {A' : Option Addr} {c' : Nat} {s' : List UInt8}
    (hr : RdB w (fun q => q < w.heap.size ∧ q ≠ b) A' s'.length s') (hc : s'.length ≤ c') (hm : c' ≤ maxLen) :
    RdS (w.setCell ⟨b, o + k, none⟩ (.slice A' s'.length c')) (fun q => q < w.heap.size) (some ⟨b, o, none⟩) n (ss.set k s') ∧ w.frozen? ⟨b, o + k, none⟩ = false := by
  obtain ⟨A0, c0, hv, _, _⟩ := h.form
  injection hv with hv1 hv2 hv3
  subst hv2
  have hlt := h.lt b rfl
  obtain ⟨xs, h1, h2⟩ := h
  rcases h1.2 with ⟨hn, _⟩ | ⟨g, cap, cur, hg, hb, hgg, rest⟩
  · cases hn
  · injection hg with hg1 hg2 hg3
    injection hg1 with hg1
    injection hg1 with hgb hgo
    subst hgb
    subst hgo
    have hcell : ∀ j u, xs[j]? = some u → w.cell? ⟨b, 0 + j, none⟩ = some u := by
      intro j u hu
      obtain ⟨b', o', e, _, hc⟩ := (Rd.of_own h1).2 (by omega)
      injection e with e
      injection e with e1 e2
      subst e1
      subst e2
      exact hc j u hu
    have hxl : xs.length = ss.length := h2.1
    refine ⟨⟨by simp, xs.set k (.slice A' s'.length c'), ⟨by simp [hxl], fun _ => ⟨b, 0, rfl, hlt.2, fun j u hu => ?_⟩⟩, by simp [h2.1], fun j s hs => ?_⟩, ?_⟩
    · rcases Nat.decEq j k with hjk | hjk
      · rw [List.getElem?_set_ne (fun e => hjk e.symm)] at hu
        rw [World.cell?_setCell_other _ _ _ _ (by intro e; injection e with _ e; exact hjk (by omega))]
        exact hcell j u hu
      · subst hjk
        rw [List.getElem?_set_self (by omega)] at hu
        injection hu with hu
        subst hu
        exact World.cell?_setCell_same _ _ _ (hcell j _ (List.getElem?_eq_getElem (by omega)))
    · rcases Nat.decEq j k with hjk | hjk
      · rw [List.getElem?_set_ne (fun e => hjk e.symm)] at hs
        obtain ⟨A1, c1, e1, e2, e3, e4⟩ := h2.2 j s hs
        refine ⟨A1, c1, by rw [List.getElem?_set_ne (fun e => hjk e.symm)]; exact e1, e2, e3, ?_⟩
        exact (e4.keep (fun q hq => Below.heap_setCell _ _ _ _ (by simp only; intro e; exact hq.2.2 (by rw [e]; rfl)))).more (fun q hq => hq.1)
      · subst hjk
        rw [List.getElem?_set_self (by omega)] at hs
        injection hs with hs
        subst hs
        refine ⟨A', c', by rw [List.getElem?_set_self (by omega)], hc, hm, ?_⟩
        exact (hr.keep (fun q hq => Below.heap_setCell _ _ _ _ (by simp only; exact hq.2))).more (fun q hq => hq.1)
    · simp [World.frozen?, hgg]

theorem OwnS.at_ {w : World} {base : Nat} {F : Nat → Prop} {A : Option Addr} {n c : Nat} {ss : List (List UInt8)} (h : OwnS base F w (.slice A n c) ss) {j : Nat} {s : List UInt8} (hs : ss[j]? = some s) :
    ∃ b o A' c', A = some ⟨b, o, none⟩ ∧ base ≤ b ∧ b < w.heap.size ∧ w.cell? ⟨b, o + j, none⟩ = some (.slice A' (List.length s) c') ∧ s.length ≤ c' ∧ c' ≤ maxLen ∧ RdB w (fun q => q < w.heap.size ∧ q ≠ b) A' s.length s := by
  obtain ⟨A0, c0, hv, _, _⟩ := h.form
  injection hv with hv1 hv2 hv3
  subst hv2
  have hlt := fun k hk => h.lt k hk
  have hj : j < ss.length := (List.getElem?_eq_some_iff.1 hs).1
  obtain ⟨xs, h1, h2⟩ := h
  obtain ⟨b, o, rfl, hF, hc⟩ := (Rd.of_own h1).2 (by omega)
  obtain ⟨A', c', e1, e2, e3, e4⟩ := h2.2 j s hs
  exact ⟨b, o, A', c', rfl, hF.2, hF.1, hc j _ e1, e2, e3, e4.more (fun q hq => ⟨hq.1, fun e => hq.2.2 (by rw [e]; rfl)⟩)⟩
theorem mem_set {α : Type} {l : List α} {k : Nat} {x y : α} (h : y ∈ l.set k x) : y ∈ l ∨ y = x := List.mem_or_eq_of_mem_set h

end Go.Proofs.Ytbcmpfdhpefdbaa

namespace Go.Proofs.Ytbcmpfdhpefdbaa
open Go.RowKit
attribute [local irreducible] Go.Calls

/-- five cells that are a record -/
def RecAt (w : World) (F : Nat → Prop) (cs : List Value) (r : Rec) : Prop :=
  ∃ (Aw : Option Addr) (nw cw : Nat) (Am : Option Addr) (nm cm : Nat) (An : Option Addr) (nn cn : Nat), cs = (recCells r Aw nw cw Am nm cm An nn cn).toList ∧ RecIn w F r Aw nw cw Am nm cm An nn cn
theorem RecAt.keep {w w' : World} {F : Nat → Prop} {cs : List Value} {r : Rec} (h : RecAt w F cs r) (hk : Kp F w w') : RecAt w' F cs r := by
  obtain ⟨Aw, nw, cw, Am, nm, cm, An, nn, cn, e, h⟩ := h
  exact ⟨Aw, nw, cw, Am, nm, cm, An, nn, cn, e, h.keep hk⟩
theorem RecAt.more {w : World} {F G : Nat → Prop} {cs : List Value} {r : Rec} (h : RecAt w F cs r) (hk : ∀ k, F k → G k) : RecAt w G cs r := by
  obtain ⟨Aw, nw, cw, Am, nm, cm, An, nn, cn, e, h⟩ := h
  exact ⟨Aw, nw, cw, Am, nm, cm, An, nn, cn, e, h.more' hk⟩
theorem RecAt.len {w : World} {F : Nat → Prop} {cs : List Value} {r : Rec} (h : RecAt w F cs r) : cs.length = 5 := by
  obtain ⟨Aw, nw, cw, Am, nm, cm, An, nn, cn, e, _⟩ := h
  rw [e]; rfl
theorem RecAt.one {w : World} {F : Nat → Prop} {cs : List Value} {r : Rec} (h : RecAt w F cs r) : ∀ u ∈ cs, u.oneCell' = true := by
  obtain ⟨Aw, nw, cw, Am, nm, cm, An, nn, cn, e, _⟩ := h
  rw [e]
  intro u hu
  simp [recCells] at hu
  rcases hu with rfl | rfl | rfl | rfl | rfl <;> rfl

/-- the elements' cells, one list for each record -/
def RecsAt (w : World) (F : Nat → Prop) (xs : List (List Value)) (rs : List Rec) : Prop :=
  xs.length = rs.length ∧ ∀ (j : Nat) (r : Rec), rs[j]? = some r → ∃ cs, xs[j]? = some cs ∧ RecAt w F cs r
theorem RecsAt.keep {w w' : World} {F : Nat → Prop} {xs : List (List Value)} {rs : List Rec} (h : RecsAt w F xs rs) (hk : Kp F w w') : RecsAt w' F xs rs :=
  ⟨h.1, fun j r hr => by obtain ⟨cs, e, h⟩ := h.2 j r hr; exact ⟨cs, e, h.keep hk⟩⟩
theorem RecsAt.more {w : World} {F G : Nat → Prop} {xs : List (List Value)} {rs : List Rec} (h : RecsAt w F xs rs) (hk : ∀ k, F k → G k) : RecsAt w G xs rs :=
  ⟨h.1, fun j r hr => by obtain ⟨cs, e, h⟩ := h.2 j r hr; exact ⟨cs, e, h.more hk⟩⟩
theorem RecsAt.len5 {w : World} {F : Nat → Prop} {xs : List (List Value)} {rs : List Rec} (h : RecsAt w F xs rs) : ∀ cs ∈ xs, cs.length = 5 := by
  intro cs hcs
  obtain ⟨j, hj, rfl⟩ := List.mem_iff_getElem.1 hcs
  have hs : rs[j]? = some (rs[j]'(by rw [← h.1]; exact hj)) := List.getElem?_eq_getElem _
  obtain ⟨cs, e, h⟩ := h.2 j _ hs
  rw [List.getElem?_eq_getElem hj] at e
  injection e with e
  rw [e]
  exact h.len
theorem RecsAt.snoc {w : World} {F : Nat → Prop} {xs : List (List Value)} {rs : List Rec} (h : RecsAt w F xs rs) {cs : List Value} {r : Rec} (hr : RecAt w F cs r) : RecsAt w F (xs ++ [cs]) (rs ++ [r]) := by
  refine ⟨by simp [h.1], fun j t ht => ?_⟩
  rcases Nat.lt_trichotomy j rs.length with hj | hj | hj
  · rw [List.getElem?_append_left hj] at ht
    obtain ⟨cs', e, h'⟩ := h.2 j t ht
    exact ⟨cs', by rw [List.getElem?_append_left (by rw [h.1]; exact hj)]; exact e, h'⟩
  · subst hj
    rw [List.getElem?_append_right (Nat.le_refl _), Nat.sub_self] at ht
    simp at ht; subst ht
    exact ⟨cs, by rw [← h.1, List.getElem?_append_right (Nat.le_refl _), Nat.sub_self]; rfl, hr⟩
  · rw [List.getElem?_eq_none (by simp; omega)] at ht; cases ht

/-- '.slice A n c' reads as rs -/
def RdR (w : World) (F : Nat → Prop) (A : Option Addr) (n : Nat) (rs : List Rec) : Prop := n = rs.length ∧ ∃ xs, Rd w F 5 A n xs.flatten ∧ RecsAt w F xs rs
theorem RdR.keep {w w' : World} {F : Nat → Prop} {A : Option Addr} {n : Nat} {rs : List Rec} (h : RdR w F A n rs) (hk : Kp F w w') : RdR w' F A n rs := by
  obtain ⟨h1, xs, h2, h3⟩ := h; exact ⟨h1, xs, h2.keep hk, h3.keep hk⟩
theorem RdR.more {w : World} {F G : Nat → Prop} {A : Option Addr} {n : Nat} {rs : List Rec} (h : RdR w F A n rs) (hg : ∀ k, F k → G k) : RdR w G A n rs := by
  obtain ⟨h1, xs, h2, h3⟩ := h; exact ⟨h1, xs, h2.more hg, h3.more hg⟩
theorem flatten_at (xs : List (List Value)) (h : ∀ cs ∈ xs, cs.length = 5) (j : Nat) (cs : List Value) (hj : xs[j]? = some cs) (i : Nat) (v : Value) (hv : cs[i]? = some v) : xs.flatten[j * 5 + i]? = some v := by
  have := flat_at (fun p : { cs : List Value // cs.length = 5 } => p.1) 5 (fun p => p.2) (xs.attach.map (fun p => ⟨p.1, h p.1 p.2⟩)) j ⟨cs, h cs (List.mem_of_getElem? hj)⟩ (by
    rw [List.getElem?_map, List.getElem?_attach]
    simp [hj]) i v hv
  have e : (xs.attach.map (fun p => (⟨p.1, h p.1 p.2⟩ : { cs : List Value // cs.length = 5 }))).flatMap (fun p => p.1) = xs.flatten := by
    rw [List.flatMap_map]
    conv => rhs; rw [← List.attach_map_subtype_val xs, ← List.flatMap_def]
  rw [e] at this
  exact this
theorem RdR.at_ {w : World} {F : Nat → Prop} {A : Option Addr} {n : Nat} {rs : List Rec} (h : RdR w F A n rs) {j : Nat} {r : Rec} (hr : rs[j]? = some r) :
    ∃ b o Aw nw cw Am nm cm An nn cn, A = some ⟨b, o, none⟩ ∧ F b ∧ RecIn w F r Aw nw cw Am nm cm An nn cn ∧ ∀ i v, (recCells r Aw nw cw Am nm cm An nn cn).toList[i]? = some v → w.cell? ⟨b, o + j * 5 + i, none⟩ = some v := by
  obtain ⟨h1, xs, h2, h3⟩ := h
  have hj : j < rs.length := (List.getElem?_eq_some_iff.1 hr).1
  obtain ⟨b, o, rfl, hF, hc⟩ := h2.2 (by omega)
  obtain ⟨cs, e1, Aw, nw, cw, Am, nm, cm, An, nn, cn, rfl, e4⟩ := h3.2 j r hr
  exact ⟨b, o, Aw, nw, cw, Am, nm, cm, An, nn, cn, rfl, hF, e4, fun i v hv => by rw [Nat.add_assoc]; exact hc _ v (flatten_at xs h3.len5 j _ e1 i v hv)⟩

theorem RdR.take_ {w : World} {F : Nat → Prop} {A : Option Addr} {n : Nat} {rs : List Rec} (h : RdR w F A n rs) {k : Nat} (hk : k ≤ n) : RdR w F A k (rs.take k) := by
  obtain ⟨rfl, xs, h2, h3⟩ := h
  refine ⟨by simp; omega, xs.take k, ?_, by simp [h3.1], fun j r hr => ?_⟩
  · have e : (xs.take k).flatten = xs.flatten.take (k * 5) := by
      have h5 := h3.len5
      clear h2 h3 hk
      induction xs generalizing k with
      | nil => simp
      | cons x xs ih =>
        cases k with
        | zero => simp
        | succ k =>
          have hx := h5 x (List.mem_cons_self ..)
          rw [List.take_succ_cons, List.flatten_cons, List.flatten_cons, ih (fun c hc => h5 c (List.mem_cons_of_mem _ hc)), show (k + 1) * 5 = x.length + k * 5 by omega, List.take_append, List.take_of_length_le (l := x) (by omega), Nat.add_sub_cancel_left]
    rw [e]
    exact h2.take_ hk
  · rw [List.getElem?_take] at hr ⊢
    split at hr
    · rename_i hj; rw [if_pos hj]; exact h3.2 _ r hr
    · cases hr
theorem info_recz : (Try.prog.info? 27).map (fun i => (i.zero, i.size, i.bytes)) = some (some (.agg #[.int .u64 0, .int .u64 0, .slice none 0 0, .slice none 0 0, .slice none 0 0]), 5, 88) := by kernel_rfl

/-- v is a row of records of the call's own; what their slices hold lies in F or in blocks from base on, none in the row's own block -/
def OwnR (base : Nat) (F : Nat → Prop) (w : World) (v : Value) (rs : List Rec) : Prop :=
  ∃ xs, w.ownsRow base 27 5 v rs.length xs.flatten ∧ RecsAt w (fun k => k < w.heap.size ∧ (F k ∨ base ≤ k) ∧ v.ownBlock ≠ some k) xs rs
section
variable {w w' : World} {base : Nat} {F : Nat → Prop} {v : Value} {rs : List Rec}
theorem OwnR.nil_ : OwnR base F w (.slice none 0 0) [] := ⟨[], World.ownsRow_nil w base _ 5, rfl, fun j s hs => by simp at hs⟩
theorem OwnR.form (h : OwnR base F w v rs) : ∃ A c, v = .slice A rs.length c ∧ rs.length ≤ c ∧ c ≤ maxLen := by obtain ⟨xs, h, _⟩ := h; exact own_slice h
theorem OwnR.lt (h : OwnR base F w v rs) : ∀ k, v.ownBlock = some k → base ≤ k ∧ k < w.heap.size := by obtain ⟨xs, h, _⟩ := h; exact World.ownsRow.lt h
theorem OwnR.rd {A : Option Addr} {n c : Nat} (h : OwnR base F w (.slice A n c) rs) : RdR w (fun k => k < w.heap.size ∧ (F k ∨ base ≤ k)) A n rs := by
  obtain ⟨A', c', hv, _, _⟩ := h.form
  injection hv with h1 h2 h3
  subst h1; subst h2; subst h3
  obtain ⟨xs, h1, h2⟩ := h
  exact ⟨rfl, xs, (Rd.of_own h1).more (fun k hk => ⟨hk.1, .inr hk.2⟩), h2.more (fun k hk => ⟨hk.1, hk.2.1⟩)⟩
theorem OwnR.keep (h : OwnR base F w v rs) (hz : w.heap.size ≤ w'.heap.size) (hk : ∀ k, k < w.heap.size → (F k ∨ base ≤ k) → w'.heap[k]? = w.heap[k]?) : OwnR base F w' v rs := by
  obtain ⟨xs, h1, h2⟩ := h
  refine ⟨xs, ⟨h1.1, ?_⟩, (h2.keep (fun k hk' => hk k hk'.1 hk'.2.1)).more (fun k hk => ⟨by have := hk.1; omega, hk.2⟩)⟩
  rcases h1.2 with hn | ⟨g, cap, cur, rfl, hb, hgg, rest⟩
  · exact .inl hn
  · refine .inr ⟨g, cap, cur, rfl, hb, ?_, rest⟩
    rw [hk g (Array.getElem?_eq_some_iff.1 hgg).1 (.inr hb)]
    exact hgg
theorem OwnR.below (h : OwnR base F w v rs) (hb : Below w.heap.size w w') : OwnR base F w' v rs := h.keep hb.size (fun k hk _ => hb.block k hk)
end

/-- append(out, r): the record has been laid into a block of its own first -/
theorem wpList_apR {ops : Array Oper} {rest : List Oper} {o : Oper} {a : Act} {w : World} {Q : Exit → Act → World → Prop} (hgd : o.guard = none) (s x : Operand)
    (ho : o.op = .call { callee := .builtin .append, args := #[s, x], argTypes := #[53, 53] })
    (base : Nat) (F : Nat → Prop) (v : Value) (rs : List Rec) (hs : a.eval s = v) (hown : OwnR base F w v rs) (r : Rec) (Aw : Option Addr) (nw cw : Nat) (Am : Option Addr) (nm cm : Nat) (An : Option Addr) (nn cn c' : Nat)
    (hx : a.eval x = .slice (some ⟨w.heap.size, 0, none⟩) 1 c') (hr : RecIn w (fun k => k < w.heap.size ∧ (F k ∨ base ≤ k) ∧ v.ownBlock ≠ some k) r Aw nw cw Am nm cm An nn cn)
    (hlen : rs.length + 1 ≤ 1000000000) (hbase : base ≤ w.heap.size)
    (h : ∀ v' w', OwnR base F w' v' (rs ++ [r]) → w.grownBy w' v.ownBlock → (v'.ownBlock = v.ownBlock ∨ v'.ownBlock = some (w.heap.size + 1)) → wpList Try.prog ops Q rest (a.put o.dst v') w') :
    wpList Try.prog ops Q (o :: rest) a (w.alloc (.cells (recCells r Aw nw cw Am nm cm An nn cn) 27)) := by
  obtain ⟨i0, hi, hz0, hz1, hz2⟩ := info_parts info_recz
  obtain ⟨xs, h1, h2⟩ := hown
  have hat : RecAt w (fun k => k < w.heap.size ∧ (F k ∨ base ≤ k) ∧ v.ownBlock ≠ some k) (recCells r Aw nw cw Am nm cm An nn cn).toList r := ⟨Aw, nw, cw, Am, nm, cm, An, nn, cn, rfl, hr⟩
  refine wpList_append_any (w.alloc (.cells (recCells r Aw nw cw Am nm cm An nn cn) 27)) hgd s x 53 ho base 27 i0 _ 5 88 Try.underlying53 hi hz0 hz1 hz2 rfl (by decide) v rs.length _ hs (World.ownsRow.alloc h1 _) _ _ 1 c' (recCells r Aw nw cw Am nm cm An nn cn).toList hx (rd_blk (Blk.new _ _ _)) hat.one
    (by simp only [maxLen]; omega) (by omega) (by simp; omega) ?_
  intro v' w' e1 e2 e3
  have hg := (World.grownBy_alloc w (.cells (recCells r Aw nw cw Am nm cm An nn cn) 27) v.ownBlock).trans e2
  refine h v' w' ⟨xs ++ [(recCells r Aw nw cw Am nm cm An nn cn).toList], ?_, ?_⟩ hg (by simpa using e3)
  · rw [List.length_append, List.flatten_append]
    simpa using e1
  · have hkp : Kp (fun k => k < w.heap.size ∧ (F k ∨ base ≤ k) ∧ v.ownBlock ≠ some k) w w' := fun k hk => hg.block k hk.1 (fun e => hk.2.2 e.symm)
    refine ((h2.snoc hat).keep hkp).more (fun k hk => ⟨by have := hg.size; have := hk.1; omega, hk.2.1, ?_⟩)
    rcases e3 with e | e
    · rw [e]; exact hk.2.2
    · rw [e]; intro e'; injection e' with e'; have := hk.1; simp at e'; omega

end Go.Proofs.Ytbcmpfdhpefdbaa

namespace Go.Proofs.Ytbcmpfdhpefdbaa
open Go.RowKit
attribute [local irreducible] Go.Calls

/-- the cells xs are slices of records that read as ls -/
def ElemsR (w : World) (F : Nat → Prop) (xs : List Value) (ls : List (List Rec)) : Prop :=
  xs.length = ls.length ∧ ∀ (j : Nat) (l : List Rec), ls[j]? = some l → ∃ (A : Option Addr) (c : Nat), xs[j]? = some (Value.slice A l.length c) ∧ l.length ≤ c ∧ c ≤ maxLen ∧ RdR w F A l.length l
theorem ElemsR.keep {w w' : World} {F : Nat → Prop} {xs : List Value} {ls : List (List Rec)} (h : ElemsR w F xs ls) (hk : Kp F w w') : ElemsR w' F xs ls :=
  ⟨h.1, fun j s hs => by obtain ⟨A, c, h1, h2, h3, h4⟩ := h.2 j s hs; exact ⟨A, c, h1, h2, h3, h4.keep hk⟩⟩
/-- '.slice A n c' reads as ls -/
def RdL (w : World) (F : Nat → Prop) (A : Option Addr) (n : Nat) (ls : List (List Rec)) : Prop := n = ls.length ∧ ∃ xs, Rd w F 1 A n xs ∧ ElemsR w F xs ls
theorem RdL.keep {w w' : World} {F : Nat → Prop} {A : Option Addr} {n : Nat} {ls : List (List Rec)} (h : RdL w F A n ls) (hk : Kp F w w') : RdL w' F A n ls := by
  obtain ⟨h1, xs, h2, h3⟩ := h; exact ⟨h1, xs, h2.keep hk, h3.keep hk⟩
theorem RdL.at_ {w : World} {F : Nat → Prop} {A : Option Addr} {n : Nat} {ls : List (List Rec)} (h : RdL w F A n ls) {j : Nat} {l : List Rec} (hs : ls[j]? = some l) :
    ∃ b o A' c, A = some ⟨b, o, none⟩ ∧ F b ∧ w.cell? ⟨b, o + j, none⟩ = some (.slice A' (List.length l) c) ∧ l.length ≤ c ∧ c ≤ maxLen ∧ RdR w F A' l.length l := by
  obtain ⟨h1, xs, h2, h3⟩ := h
  have hj : j < ls.length := (List.getElem?_eq_some_iff.1 hs).1
  obtain ⟨b, o, rfl, hF, hc⟩ := h2.2 (by omega)
  obtain ⟨A', c, e1, e2, e3, e4⟩ := h3.2 j l hs
  exact ⟨b, o, A', c, rfl, hF, hc j _ e1, e2, e3, e4⟩

theorem RdR.nil_ {w : World} {F : Nat → Prop} {A : Option Addr} : RdR w F A 0 [] := ⟨rfl, [], Rd.none_, rfl, fun j r hr => by simp at hr⟩

theorem RecsAt.append {w : World} {F : Nat → Prop} {xs ys : List (List Value)} {rs ts : List Rec} (h : RecsAt w F xs rs) (k : RecsAt w F ys ts) : RecsAt w F (xs ++ ys) (rs ++ ts) := by
  refine ⟨by simp [h.1, k.1], fun j s hs => ?_⟩
  rcases Nat.lt_or_ge j rs.length with hj | hj
  · rw [List.getElem?_append_left hj] at hs
    obtain ⟨cs, e, r⟩ := h.2 j s hs
    exact ⟨cs, by rw [List.getElem?_append_left (by rw [h.1]; exact hj)]; exact e, r⟩
  · rw [List.getElem?_append_right hj] at hs
    obtain ⟨cs, e, r⟩ := k.2 _ s hs
    exact ⟨cs, by rw [List.getElem?_append_right (by rw [h.1]; exact hj), h.1]; exact e, r⟩
theorem RecsAt.one {w : World} {F : Nat → Prop} {xs : List (List Value)} {rs : List Rec} (h : RecsAt w F xs rs) : ∀ u ∈ xs.flatten, u.oneCell' = true := by
  intro u hu
  obtain ⟨cs, hcs, hu⟩ := List.mem_flatten.1 hu
  obtain ⟨j, hj, rfl⟩ := List.mem_iff_getElem.1 hcs
  have hs : rs[j]? = some (rs[j]'(by rw [← h.1]; exact hj)) := List.getElem?_eq_getElem _
  obtain ⟨cs, e, r⟩ := h.2 j _ hs
  rw [List.getElem?_eq_getElem hj] at e
  injection e with e
  rw [e] at hu
  exact r.one u hu

/-- append(out, l...) -/
theorem wpList_apRs {ops : Array Oper} {rest : List Oper} {o : Oper} {a : Act} {w : World} {Q : Exit → Act → World → Prop} (hgd : o.guard = none) (s x : Operand)
    (ho : o.op = .call { callee := .builtin .append, args := #[s, x], argTypes := #[53, 53] })
    (base : Nat) (F : Nat → Prop) (v : Value) (rs : List Rec) (hs : a.eval s = v) (hown : OwnR base F w v rs) (G : Nat → Prop) (A : Option Addr) (m c : Nat) (ts : List Rec)
    (hx : a.eval x = .slice A m c) (hr : RdR w G A m ts) (hG : ∀ k, G k → k < w.heap.size ∧ (F k ∨ base ≤ k) ∧ v.ownBlock ≠ some k)
    (hlen : rs.length + ts.length ≤ 1000000000) (hbase : base ≤ w.heap.size)
    (h : ∀ v' w', OwnR base F w' v' (rs ++ ts) → w.grownBy w' v.ownBlock → (v'.ownBlock = v.ownBlock ∨ v'.ownBlock = some w.heap.size) → wpList Try.prog ops Q rest (a.put o.dst v') w') :
    wpList Try.prog ops Q (o :: rest) a w := by
  obtain ⟨i0, hi, hz0, hz1, hz2⟩ := info_parts info_recz
  obtain ⟨xs, h1, h2⟩ := hown
  obtain ⟨hm, ys, h3, h4⟩ := hr
  refine wpList_append_any w hgd s x 53 ho base 27 i0 _ 5 88 Try.underlying53 hi hz0 hz1 hz2 rfl (by decide) v rs.length _ hs h1 G A m c ys.flatten hx h3 h4.one
    (by simp only [maxLen]; omega) (by omega) hbase ?_
  intro v' w' e1 e2 e3
  refine h v' w' ⟨xs ++ ys, by rw [List.length_append, ← hm, List.flatten_append]; exact e1, ?_⟩ e2 e3
  have hkp : Kp (fun k => k < w.heap.size ∧ (F k ∨ base ≤ k) ∧ v.ownBlock ≠ some k) w w' := fun k hk => e2.block k hk.1 (fun e => hk.2.2 e.symm)
  refine ((h2.append (h4.more hG)).keep hkp).more (fun k hk => ⟨by have := e2.size; have := hk.1; omega, hk.2.1, ?_⟩)
  rcases e3 with e | e
  · rw [e]; exact hk.2.2
  · rw [e]; intro e'; injection e' with e'; have := hk.1; omega

end Go.Proofs.Ytbcmpfdhpefdbaa
