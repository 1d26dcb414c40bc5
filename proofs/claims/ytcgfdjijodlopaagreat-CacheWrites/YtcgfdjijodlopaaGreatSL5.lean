/- A part of proofs about the given program. No condition. -/
import Derived.Test.YtcgfdjijodlopaaGreatSL4
set_option linter.all false
/- Slices that belong to somebody; append. -/
namespace Go.SL
open Go.RowKit
variable {P : Program}

def nof : Frag := fun _ => none
theorem Sat.nof {w : World} {L : List Frag} (h : Sat w L) : Sat w (nof :: L) :=
  ⟨fun r hr b o hb => by
    rcases List.mem_cons.1 hr with rfl | hr
    · cases hb
    · exact h.sub r hr b o hb, List.pairwise_cons.2 ⟨fun _ _ _ => .inl rfl, h.dis⟩⟩
theorem Sat.drop {w : World} {r : Frag} {L : List Frag} (h : Sat w (r :: L)) : Sat w L := h.of_sublist (List.sublist_cons_self ..)

/-- what a slice leads to, where it is only read -/
structure Rd (r : Frag) (q : Option Addr) (k : Nat) (es : List (List Value)) : Prop where
  len : ∀ e ∈ es, e.length = k
  one : ∀ e ∈ es, ∀ v ∈ e, v.oneCell' = true
  at_ : es = [] ∨ ∃ b o cs T fr, q = some ⟨b, o, none⟩ ∧ r b = some (.cells cs T fr) ∧ ∀ j v, es.flatten[j]? = some v → cs[o + j]? = some v

/-- a slice that belongs to somebody -/
def IsSl (T k : Nat) (es : List (List Value)) (v : Value) (r : Frag) : Prop :=
  (∀ e ∈ es, e.length = k) ∧ (∀ e ∈ es, ∀ v ∈ e, v.oneCell' = true) ∧
  ((es = [] ∧ v = .slice none 0 0 ∧ r = nof) ∨ ∃ b c rest, v = .slice (some ⟨b, 0, none⟩) es.length c ∧ r = blk b T (es.flatten ++ rest).toArray ∧ es.length ≤ c ∧ rest.length = (c - es.length) * k)

theorem flatten_len {k : Nat} : ∀ {es : List (List Value)}, (∀ e ∈ es, e.length = k) → es.flatten.length = es.length * k
  | [], _ => by simp
  | e :: es, h => by
    rw [List.flatten_cons, List.length_append, h e (List.mem_cons_self ..), flatten_len (fun x hx => h x (List.mem_cons_of_mem _ hx)), List.length_cons, Nat.succ_mul]; omega
theorem flatten_one {es : List (List Value)} (h : ∀ e ∈ es, ∀ v ∈ e, v.oneCell' = true) : ∀ v ∈ es.flatten, v.oneCell' = true := fun v hv => by
  obtain ⟨e, he, hve⟩ := List.mem_flatten.1 hv
  exact h e he v hve
theorem flatten_get {k : Nat} : ∀ {es : List (List Value)} {i j : Nat} {e : List Value} {v : Value}, (∀ e ∈ es, e.length = k) → es[i]? = some e → e[j]? = some v → es.flatten[i * k + j]? = some v
  | [], i, j, e, v, _, h, _ => by simp at h
  | x :: es, 0, j, e, v, hl, h, hj => by
    simp at h; subst h
    have : j < x.length := (List.getElem?_eq_some_iff.1 hj).1
    simp [List.flatten_cons, List.getElem?_append_left this, hj]
  | x :: es, i + 1, j, e, v, hl, h, hj => by
    have hx := hl x (List.mem_cons_self ..)
    rw [List.flatten_cons, List.getElem?_append_right (by rw [hx, Nat.succ_mul]; omega)]
    have : (i + 1) * k + j - x.length = i * k + j := by rw [hx, Nat.succ_mul]; omega
    rw [this]
    exact flatten_get (fun y hy => hl y (List.mem_cons_of_mem _ hy)) (by simpa using h) hj

theorem IsSl.rd {T k : Nat} {es : List (List Value)} {v : Value} {r : Frag} (h : IsSl T k es v r) : ∃ q c, v = .slice q es.length c ∧ Rd r q k es := by
  obtain ⟨h1, h2, h3⟩ := h
  rcases h3 with ⟨rfl, rfl, rfl⟩ | ⟨b, c, rest, rfl, rfl, _, _⟩
  · exact ⟨none, 0, rfl, h1, h2, .inl rfl⟩
  · refine ⟨_, c, rfl, h1, h2, .inr ⟨b, 0, _, T, _, rfl, blk_same .., fun j v hj => ?_⟩⟩
    have : j < es.flatten.length := (List.getElem?_eq_some_iff.1 hj).1
    simp [List.getElem?_append_left this, hj]
theorem IsSl.nil (T k : Nat) : IsSl T k [] (.slice none 0 0) nof := ⟨fun _ h => (by cases h), fun _ h => (by cases h), .inl ⟨rfl, rfl, rfl⟩⟩

class ElemT (P : Program) (e : Nat) (k bytes : outParam Nat) (z : outParam Value) : Prop where
  info : ∃ i, P.info? e = some i ∧ i.size = k ∧ i.bytes = bytes ∧ i.zero = some z
  zlen : z.cells.size = k

theorem Rd.firstCells {w : World} {r : Frag} {q : Option Addr} {k c : Nat} {es : List (List Value)} (h : Rd r q k es) (hs : ∀ b o, r b = some o → w.heap[b]? = some o) :
    (Builtin.firstCells k es.length (.slice q es.length c)).run P w = .ok es.flatten.toArray w := by
  cases q with
  | none =>
    rcases h.at_ with rfl | ⟨b, o, cs, T, fr, hq, _⟩
    · simp [Builtin.firstCells]
    · cases hq
  | some a =>
    rcases h.at_ with rfl | ⟨b, o, cs, T, fr, hq, hr, hc⟩
    · simp [Builtin.firstCells, loadCells, loadCellsFrom]
    · injection hq with hq; subst hq
      have := run_loadCells_list (P := P) w ⟨b, o, none⟩ es.flatten (fun j v hv => by
        rw [Addr.add_none, cell_of_row w b (o + j) cs T fr (hs b _ hr)]; exact hc j v hv)
      rw [flatten_len h.len] at this
      exact this
theorem Rd.src {w : World} {r : Frag} {q : Option Addr} {k c tx e' : Nat} {es : List (List Value)} (h : Rd r q k es) (hs : ∀ b o, r b = some o → w.heap[b]? = some o) (hk : P.underlying tx = some (.slice e')) :
    Src P k tx (.slice q es.length c) es.length es.flatten w :=
  ⟨.inl ⟨e', hk⟩, fun _ => rfl, h.firstCells hs, h.firstCells (w := w.drew) hs, flatten_len h.len, flatten_one h.one⟩

theorem zeroCells_size (z : Array Value) (n : Nat) : (Builtin.zeroCells z n).size = n * z.size := by simp [Builtin.zeroCells]

section
variable {ρ : Regs} {L : List Frag} {d : Option Tmp} {t : TypeId} {p : String} {af : Array Edge} {g : Option (Nat × Bool)}
theorem EX.append {T e k bytes : Nat} {z : Value} [hS : SliceT P T e k] [hE : ElemT P e k bytes z] {x y : Operand} {v : Value} {q2 : Option Addr} {c2 : Nat} {es es2 : List (List Value)} {rs r2 : Frag} {ts : Array TypeId}
    (hx : rev ρ x = some v) (hy : rev ρ y = some (.slice q2 es2.length c2)) (ht : ts = #[T, T]) (h1 : IsSl e k es v rs) (h2 : Rd r2 q2 k es2) (hr2 : r2 ∈ rs :: L) (hb : 2 * (es.length + es2.length) * bytes ≤ 281474976710656) (hb2 : es.length + es2.length ≤ 281474976710656) :
    EX P ρ (rs :: L) ⟨d, .call ⟨.builtin .append, #[x, y], ts⟩, t, p, af, g⟩ (fun v' L' => ∃ r', L' = r' :: L ∧ IsSl e k (es ++ es2) v' r') := fun n a w hr hs => by
  subst ht
  obtain ⟨i, i1, i2, i3, i4⟩ := hE.info
  have hlen : ∀ x ∈ es ++ es2, x.length = k := fun x hx => by
    rcases List.mem_append.1 hx with hx | hx
    · exact h1.1 x hx
    · exact h2.len x hx
  have hone : ∀ x ∈ es ++ es2, ∀ v ∈ x, v.oneCell' = true := fun x hx => by
    rcases List.mem_append.1 hx with hx | hx
    · exact h1.2.1 x hx
    · exact h2.one x hx
  have hsrc : Src P i.size T (.slice q2 es2.length c2) es2.length es2.flatten w := by
    rw [i2]; exact h2.src (hs.sub r2 hr2) hS.und
  obtain ⟨q, c, hv, hrd⟩ := h1.rd
  have grow : es.length + es2.length > c → ∃ v' L' w', (Builtin.append_ #[T, T] t #[v, .slice q2 es2.length c2]).run P w = .ok v' w' ∧ (∃ r', L' = r' :: L ∧ IsSl e k (es ++ es2) v' r') ∧ Sat w' L' ∧ Keep w w' := fun hg => by
    subst hv
    have hn := nextslicecap_le hg
    have := run_append_grow_src w T T t e i z hS.und i1 i4 q es.length c es.flatten (by rw [i2]; exact hrd.firstCells (w := w.drew) (hs.sub rs (List.mem_cons_self ..))) _ es2.length es2.flatten hsrc hg (by omega)
      (Nat.le_trans (Nat.mul_le_mul_right _ hn) (by rw [i3]; exact hb))
    have hcap := grownCap_ge w (es.length + es2.length) c e
    refine ⟨_, _, _, this, ⟨blk w.heap.size e _, rfl, hlen, hone, .inr ⟨w.heap.size, grownCap w (es.length + es2.length) c e, (Builtin.zeroCells z.cells (grownCap w (es.length + es2.length) c e - (es.length + es2.length))).toList, by simp, ?_, by simpa using hcap, ?_⟩⟩, (hs.drawn (w.drawn + 1)).drop.allocCells _ e, ⟨rfl, rfl, rfl, by simp⟩⟩
    · congr 1; simp [List.append_assoc]
    · simp [zeroCells_size, hE.zlen]
  have fin : (∃ v' L' w', (Builtin.append_ #[T, T] t #[v, .slice q2 es2.length c2]).run P w = .ok v' w' ∧ (∃ r', L' = r' :: L ∧ IsSl e k (es ++ es2) v' r') ∧ Sat w' L' ∧ Keep w w') → ∃ v' L' w', (execOp a.eval ⟨d, .call ⟨.builtin .append, #[x, y], #[T, T]⟩, t, p, af, g⟩).run P w = .ok (.value v') w' ∧ (∃ r', L' = r' :: L ∧ IsSl e k (es ++ es2) v' r') ∧ Sat w' L' ∧ Keep w w' := by
    rintro ⟨v', L', w', g1, g2⟩
    exact ⟨v', L', w', by simp [execOp, resolve, invoke, builtin, hr.eval hx, hr.eval hy, g1], g2⟩
  apply fin
  obtain ⟨-, -, h3⟩ := h1
  rcases h3 with ⟨rfl, rfl, rfl⟩ | ⟨b, c', rest, hv', rfl, hle, hrest⟩
  · injection hv with e1 e2 e3
    subst e1; subst e3
    rcases Nat.eq_zero_or_pos es2.length with h0 | h0
    · have : es2 = [] := List.eq_nil_of_length_eq_zero h0
      subst this
      refine ⟨.slice none 0 0, _, w, ?_, ⟨nof, rfl, by simpa using IsSl.nil e k⟩, hs, Keep.refl w⟩
      have := hsrc.cells
      simp only [List.length_nil, List.flatten_nil] at this
      simp [Builtin.append_, run_underlying hS.und, sizeOf, typeInfo, i1, Builtin.lenOf, this]
    · exact grow (by simpa using h0)
  · subst hv
    injection hv' with e1 e2 e3
    subst e1; subst e3
    rcases Nat.lt_or_ge c (es.length + es2.length) with hg | hroom
    · exact grow hg
    · have hb' : w.heap[b]? = some (.cells (es.flatten ++ rest).toArray e (0, 0)) := hs.sub _ (List.mem_cons_self ..) b _ (blk_same ..)
      have hfl := flatten_len (k := k) (es := es) (fun x hx => hlen x (List.mem_append_left _ hx))
      have hfl2 := flatten_len h2.len
      have hsz : es.length * k + es2.flatten.length ≤ (es.flatten ++ rest).length := by
        rw [List.length_append, hfl, hfl2, hrest]
        have : es2.length * k ≤ (c - es.length) * k := Nat.mul_le_mul_right k (by omega)
        omega
      have hst := run_storeCells_at (P := P) b (es.length * k) e es2.flatten 0 _ w hb' (by simpa using hsz) (flatten_one h2.one)
      have e3 : (es.flatten ++ rest).take (es.length * k) ++ es2.flatten ++ (es.flatten ++ rest).drop (es.length * k + es2.flatten.length) = (es ++ es2).flatten ++ rest.drop es2.flatten.length := by
        rw [← hfl, List.take_left, List.drop_append, List.flatten_append, List.drop_of_length_le (by omega), List.nil_append]
        congr 2; omega
      simp only [Nat.add_zero] at hst
      rw [e3] at hst
      refine ⟨.slice (some ⟨b, 0, none⟩) (es.length + es2.length) c, _, w.setRow b ((es ++ es2).flatten ++ rest.drop es2.flatten.length).toArray, ?_, ⟨blk b e ((es ++ es2).flatten ++ rest.drop es2.flatten.length).toArray, rfl, hlen, hone, .inr ⟨b, c, rest.drop es2.flatten.length, by simp, rfl, by simpa using hroom, ?_⟩⟩, hs.rowAt (i := 0) rfl _, Keep.setRow w _ _⟩
      rotate_left
      · rw [List.length_drop, hrest, hfl2, List.length_append, ← Nat.sub_mul]; congr 1; omega
      · have hadd : (⟨b, 0, none⟩ : Addr).add (es.length * k) = ⟨b, es.length * k, none⟩ := by rw [Addr.add_none]; simp
        have hcells := hsrc.cells
        rw [i2] at hcells
        rw [← hadd] at hst
        simp [Builtin.append_, run_underlying hS.und, sizeOf, typeInfo, i1, i2, Builtin.lenOf, hroom, hcells, hst]
end
end Go.SL
