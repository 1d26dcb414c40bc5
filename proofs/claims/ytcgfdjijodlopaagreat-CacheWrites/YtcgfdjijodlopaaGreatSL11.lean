/- A part of proofs about the given program. No condition. -/
import Derived.Test.YtcgfdjijodlopaaGreatSL10
set_option linter.all false
/- Stores into one element of a row of elements. -/
namespace Go.SL
open Go.RowKit
variable {P : Program} {n : Nat}
theorem flatten_set {k : Nat} : ∀ {es : List (List Value)} {J f : Nat} {e : List Value} {v : Value}, (∀ e ∈ es, e.length = k) → es[J]? = some e → f < k → es.flatten.set (J * k + f) v = (es.set J (e.set f v)).flatten
  | [], J, f, e, v, _, h, _ => by simp at h
  | x :: es, 0, f, e, v, hl, h, hf => by
    simp at h; subst h
    have hx := hl x (List.mem_cons_self ..)
    simp only [Nat.zero_mul, Nat.zero_add, List.flatten_cons, List.set_cons_zero]
    rw [List.set_append_left _ _ (by omega)]
  | x :: es, J + 1, f, e, v, hl, h, hf => by
    have hx := hl x (List.mem_cons_self ..)
    have ih := flatten_set (J := J) (f := f) (e := e) (v := v) (fun y hy => hl y (List.mem_cons_of_mem _ hy)) (by simpa using h) hf
    simp only [List.flatten_cons, List.set_cons_succ]
    rw [List.set_append_right _ _ (by rw [hx, Nat.succ_mul]; omega), hx, ← ih]
    congr 2; rw [Nat.succ_mul]; omega
theorem flatten_put {k : Nat} : ∀ {es : List (List Value)} {J f : Nat} {e vs : List Value}, (∀ e ∈ es, e.length = k) → es[J]? = some e → f + vs.length ≤ k → es.flatten.take (J * k + f) ++ vs ++ es.flatten.drop (J * k + f + vs.length) = (es.set J (e.take f ++ vs ++ e.drop (f + vs.length))).flatten
  | [], J, f, e, vs, _, h, _ => by simp at h
  | x :: es, 0, f, e, vs, hl, h, hf => by
    simp at h; subst h
    have hx := hl x (List.mem_cons_self ..)
    simp only [Nat.zero_mul, Nat.zero_add, List.flatten_cons, List.set_cons_zero]
    rw [List.take_append_of_le_length (by omega), List.drop_append_of_le_length (by omega)]
    simp only [List.append_assoc]
  | x :: es, J + 1, f, e, vs, hl, h, hf => by
    have hx := hl x (List.mem_cons_self ..)
    have ih := flatten_put (J := J) (f := f) (e := e) (vs := vs) (fun y hy => hl y (List.mem_cons_of_mem _ hy)) (by simpa using h) hf
    simp only [List.flatten_cons, List.set_cons_succ]
    have e1 : (J + 1) * k + f = x.length + (J * k + f) := by rw [hx, Nat.succ_mul]; omega
    have e2 : (J + 1) * k + f + vs.length = x.length + (J * k + f + vs.length) := by omega
    rw [e1, Nat.add_assoc x.length, List.take_length_add_append, List.drop_length_add_append, ← ih]
    simp only [List.append_assoc]
section
variable {ρ : Regs} {L : List Frag} {d : Option Tmp} {t : TypeId} {p : String} {af : Array Edge} {g : Option (Nat × Bool)}
theorem EF.el1 {ty k : Nat} [One P ty] {x y : Operand} {b off J f i : Nat} {T : TypeId} {es : List (List Value)} {e : List Value} {v : Value} (hx : rev ρ x = some (.pointer (some ⟨b, off, none⟩))) (hy : rev ρ y = some v) (hv : v.oneCell' = true) (hoff : off = J * k + f)
    (hl : ∀ e ∈ es, e.length = k) (he : es[J]? = some e) (hf : f < k) (hi : L[i]? = some (blk b T es.flatten.toArray)) : EF P ρ L ⟨d, .store ty x y, t, p, af, g⟩ undef (L.set i (blk b T ((es.set J (e.set f v)).flatten).toArray)) := by
  subst hoff
  have hlt : J * k + f < es.flatten.length := by
    rw [flatten_len hl]
    have : J + 1 ≤ es.length := (List.getElem?_eq_some_iff.1 he).1
    have := Nat.mul_le_mul_right k this
    rw [Nat.succ_mul] at this; omega
  have := EF.store1 (P := P) (ty := ty) (d := d) (t := t) (p := p) (af := af) (g := g) hx hy hv hi (by simpa using hlt)
  rw [← flatten_set hl he hf]
  simpa using this
theorem EF.elA {ty k m : Nat} [Agg P ty m] {x y : Operand} {b off J f i : Nat} {T : TypeId} {es : List (List Value)} {e vs : List Value} (hx : rev ρ x = some (.pointer (some ⟨b, off, none⟩))) (hy : rev ρ y = some (.agg vs.toArray)) (hv : ones vs = true) (hm : Nat.beq (llen vs) m = true) (hoff : off = J * k + f)
    (hl : ∀ e ∈ es, e.length = k) (he : es[J]? = some e) (hf : f + m ≤ k) (hi : L[i]? = some (blk b T es.flatten.toArray)) : EF P ρ L ⟨d, .store ty x y, t, p, af, g⟩ undef (L.set i (blk b T ((es.set J (e.take f ++ vs ++ e.drop (f + vs.length))).flatten).toArray)) := by
  subst hoff
  have hm := Nat.eq_of_beq_eq_true hm
  rw [llen_eq] at hm
  have hle : J * k + f + m ≤ es.flatten.length := by
    rw [flatten_len hl]
    have : J + 1 ≤ es.length := (List.getElem?_eq_some_iff.1 he).1
    have := Nat.mul_le_mul_right k this
    rw [Nat.succ_mul] at this; omega
  have := EF.storeA (P := P) (ty := ty) (d := d) (t := t) (p := p) (af := af) (g := g) (vs := vs.toArray) hx hy hi (by simpa using hm) (by simpa using hle) (Array.all_eq_true_iff_forall_mem.2 (fun v hv' => ones_spec hv v (by simpa using hv')))
  rw [← flatten_put hl he (by omega)]
  simpa [splice] using this
end
theorem TL.unfold {ops : Array Oper} {Q : Post} {l : List Oper} {ρ : Regs} {m F : List Frag} (hd : m.Pairwise Disj) (k : TL P n ops Q l ρ (m ++ F)) : TL P n ops Q l ρ (un m :: F) := fun a w hr hs => k a w hr (hs.unfold hd)
theorem LD.elAo {ρ : Regs} {L : List Frag} {d : Option Tmp} {t : TypeId} {p : String} {af : Array Edge} {g : Option (Nat × Bool)} {ty : TypeId} {k : Nat} [Agg P ty k] {x : Operand} {b o off j : Nat} {r : Frag} {cs : Array Value} {T : TypeId} {fr : Nat × Nat} {es : List (List Value)} {e : List Value} (hx : rev ρ x = some (.pointer (some ⟨b, off, none⟩)))
    (hoff : off = o + j * k) (hr : r ∈ L) (hb : r b = some (.cells cs T fr)) (hc : ∀ j v, es.flatten[j]? = some v → cs[o + j]? = some v) (hl : ∀ e ∈ es, e.length = k) (he : es[j]? = some e) : LD P ρ L ⟨d, .load ty x, t, p, af, g⟩ (.agg e.toArray) := by
  subst hoff; exact LD.elA hx hr hb hc hl he
end Go.SL
