/- A part of proofs about the given program. No condition. -/
import Derived.Test.YtcgfdjijodlopaaGreatSL14
set_option linter.all false
/- Append where there is room, copy, clear. -/
namespace Go.SL
open Go.RowKit
variable {P : Program} {n : Nat}
section
variable {ρ : Regs} {L : List Frag} {d : Option Tmp} {t : TypeId} {p : String} {af : Array Edge} {g : Option (Nat × Bool)}
theorem EF.appendIn {T e k bytes : Nat} {z : Value} [hS : SliceT P T e k] [hE : ElemT P e k bytes z] {x y : Operand} {q2 : Option Addr} {b c c2 i m : Nat} {es es2 : List (List Value)} {rest : List Value} {r2 : Frag} {ts : Array TypeId}
    (hx : rev ρ x = some (.slice (some ⟨b, 0, none⟩) m c)) (hm : m = es.length) (hy : rev ρ y = some (.slice q2 es2.length c2)) (ht : ts = #[T, T]) (hi : L[i]? = some (blk b e (es.flatten ++ rest).toArray)) (hl : ∀ x ∈ es, x.length = k) (h2 : Rd r2 q2 k es2) (hr2 : r2 ∈ L) (hroom : es.length + es2.length ≤ c) (hrest : rest.length = (c - es.length) * k) :
    EF P ρ L ⟨d, .call ⟨.builtin .append, #[x, y], ts⟩, t, p, af, g⟩ (.slice (some ⟨b, 0, none⟩) (es.length + es2.length) c) (L.set i (blk b e ((es ++ es2).flatten ++ rest.drop es2.flatten.length).toArray)) := fun n a w hr hs => by
  subst ht; subst hm
  obtain ⟨inf, i1, i2, i3, i4⟩ := hE.info
  have hsrc : Src P inf.size T (.slice q2 es2.length c2) es2.length es2.flatten w := by
    rw [i2]; exact h2.src (hs.sub r2 hr2) hS.und
  have hb' : w.heap[b]? = some (.cells (es.flatten ++ rest).toArray e (0, 0)) := hs.sub _ (List.mem_of_getElem? hi) b _ (blk_same ..)
  have hfl := flatten_len (k := k) (es := es) hl
  have hfl2 := flatten_len h2.len
  have hsz : es.length * k + es2.flatten.length ≤ (es.flatten ++ rest).length := by
    rw [List.length_append, hfl, hfl2, hrest]
    have : es2.length * k ≤ (c - es.length) * k := Nat.mul_le_mul_right k (by omega)
    omega
  have hst := run_storeCells_at (P := P) b (es.length * k) e es2.flatten 0 _ w hb' (by simpa using hsz) (flatten_one h2.one)
  have e3 : (es.flatten ++ rest).take (es.length * k) ++ es2.flatten ++ (es.flatten ++ rest).drop (es.length * k + es2.flatten.length) = (es ++ es2).flatten ++ rest.drop es2.flatten.length := by
    rw [← hfl, List.take_left, List.drop_append, List.flatten_append, List.drop_of_length_le (by omega), List.nil_append]
    congr 2; omega
  simp only [Nat.add_zero] at hst
  rw [e3] at hst
  refine ⟨w.setRow b ((es ++ es2).flatten ++ rest.drop es2.flatten.length).toArray, .inl ?_, hs.rowAt hi _, Keep.setRow w _ _⟩
  have hadd : (⟨b, 0, none⟩ : Addr).add (es.length * k) = ⟨b, es.length * k, none⟩ := by rw [Addr.add_none]; simp
  have hcells := hsrc.cells
  rw [i2] at hcells
  rw [← hadd] at hst
  simp [execOp, resolve, invoke, builtin, hr.eval hx, hr.eval hy, Builtin.append_, run_underlying hS.und, sizeOf, typeInfo, i1, i2, Builtin.lenOf, hroom, hcells, hst]
/-- copy of whole elements, all of which have room -/
theorem EF.copyK {T e k bytes : Nat} {z : Value} [hS : SliceT P T e k] [hE : ElemT P e k bytes z] {x y : Operand} {q2 : Option Addr} {b o dl dc c2 i TT : Nat} {cur : List Value} {es2 : List (List Value)} {r2 : Frag} {ts : Array TypeId}
    (hx : rev ρ x = some (.slice (some ⟨b, o, none⟩) dl dc)) (hy : rev ρ y = some (.slice q2 es2.length c2)) (ht : ts = #[T, T]) (hi : L[i]? = some (blk b TT cur.toArray)) (h2 : Rd r2 q2 k es2) (hr2 : r2 ∈ L) (hdl : es2.length ≤ dl) (hfit : o + es2.length * k ≤ cur.length) :
    EF P ρ L ⟨d, .call ⟨.builtin .copy, #[x, y], ts⟩, t, p, af, g⟩ (.int .i64 es2.length) (L.set i (blk b TT (cur.take o ++ es2.flatten ++ cur.drop (o + es2.length * k)).toArray)) := fun n a w hr hs => by
  subst ht
  obtain ⟨inf, i1, i2, i3, i4⟩ := hE.info
  have hsrc : Src P inf.size T (.slice q2 es2.length c2) es2.length es2.flatten w := by
    rw [i2]; exact h2.src (hs.sub r2 hr2) hS.und
  have hb' : w.heap[b]? = some (.cells cur.toArray TT (0, 0)) := hs.sub _ (List.mem_of_getElem? hi) b _ (blk_same ..)
  have hfl2 := flatten_len h2.len
  have hst := run_storeCells_at (P := P) b o TT es2.flatten 0 _ w hb' (by rw [hfl2]; simpa using hfit) (flatten_one h2.one)
  simp only [Nat.add_zero] at hst
  rw [hfl2] at hst
  refine ⟨w.setRow b (cur.take o ++ es2.flatten ++ cur.drop (o + es2.length * k)).toArray, .inl ?_, hs.rowAt hi _, Keep.setRow w _ _⟩
  have hcells := hsrc.cells
  rw [i2] at hcells
  have hmin : Nat.min es2.length dl = es2.length := Nat.min_eq_left hdl
  simp [execOp, resolve, invoke, builtin, hr.eval hx, hr.eval hy, Builtin.copy_, run_underlying hS.und, sizeOf, typeInfo, i1, i2, Builtin.lenOf, hmin, hcells, hst, goInt]
end
end Go.SL
namespace Go.SL
open Go.RowKit
variable {P : Program} {n : Nat}
theorem zeroCells_one {z : Array Value} (h : ∀ v ∈ z.toList, v.oneCell' = true) (m : Nat) : ∀ v ∈ (Builtin.zeroCells z m).toList, v.oneCell' = true := fun v hv => by
  rw [Array.mem_toList_iff, Array.mem_iff_getElem] at hv
  obtain ⟨i, hi, rfl⟩ := hv
  rw [zeroCells_size] at hi
  have hz : 0 < z.size := by
    rcases Nat.eq_zero_or_pos z.size with h0 | h0
    · rw [h0] at hi; simp at hi
    · exact h0
  have hlt : i % z.size < z.size := Nat.mod_lt _ hz
  simp only [Builtin.zeroCells, Array.getElem_map, Array.getElem_range]
  rw [getElem!_pos z _ hlt]
  exact h _ (by simp)
section
variable {ρ : Regs} {L : List Frag} {d : Option Tmp} {t : TypeId} {p : String} {af : Array Edge} {g : Option (Nat × Bool)}
theorem EF.clear {T e k : Nat} {zl : List Value} [hS : SliceT P T e k] [hz : ZeroV P e zl.toArray] {x : Operand} {b o m c i TT : Nat} {cur : List Value} {ts : Array TypeId}
    (hx : rev ρ x = some (.slice (some ⟨b, o, none⟩) (m + 1) c)) (ht : ts = #[T]) (hi : L[i]? = some (blk b TT cur.toArray)) (h1 : ones zl = true) (hfit : o + (m + 1) * zl.length ≤ cur.length) :
    EF P ρ L ⟨d, .call ⟨.builtin .clear, #[x], ts⟩, t, p, af, g⟩ (.tuple #[]) (L.set i (blk b TT (cur.take o ++ (Builtin.zeroCells zl.toArray (m + 1)).toList ++ cur.drop (o + (m + 1) * zl.length)).toArray)) := fun n a w hr hs => by
  subst ht
  obtain ⟨v, hv1, hv2⟩ := hz.run w
  have hb' : w.heap[b]? = some (.cells cur.toArray TT (0, 0)) := hs.sub _ (List.mem_of_getElem? hi) b _ (blk_same ..)
  have hlen : (Builtin.zeroCells zl.toArray (m + 1)).toList.length = (m + 1) * zl.length := by rw [Array.length_toList, zeroCells_size, List.size_toArray]
  have hst := run_storeCells_at (P := P) b o TT (Builtin.zeroCells zl.toArray (m + 1)).toList 0 _ w hb' (by rw [hlen]; simpa using hfit) (zeroCells_one (fun v hv => ones_spec h1 v hv) _)
  simp only [Nat.add_zero] at hst
  rw [hlen] at hst
  refine ⟨w.setRow b (cur.take o ++ (Builtin.zeroCells zl.toArray (m + 1)).toList ++ cur.drop (o + (m + 1) * zl.length)).toArray, .inl ?_, hs.rowAt hi _, Keep.setRow w _ _⟩
  simp [execOp, resolve, invoke, builtin, hr.eval hx, Builtin.clear_, run_underlying hS.und, hv1, hv2, hst]
end
end Go.SL
namespace Go.SL
theorem flatten_take {k : Nat} {es : List (List Value)} (hl : ∀ e ∈ es, e.length = k) {j : Nat} (hj : j ≤ es.length) (rest : List Value) : (es.flatten ++ rest).take (j * k) = (es.take j).flatten := by
  have h1 : (es.take j).flatten.length = j * k := by rw [flatten_len (fun e he => hl e (List.mem_of_mem_take he)), List.length_take, Nat.min_eq_left hj]
  have h2 : es.flatten = (es.take j).flatten ++ (es.drop j).flatten := by rw [← List.flatten_append, List.take_append_drop]
  rw [h2, List.append_assoc, ← h1, List.take_left]
theorem copy_down {k : Nat} {es : List (List Value)} (hl : ∀ e ∈ es, e.length = k) {j : Nat} (hj : j < es.length) (rest : List Value) :
    (es.flatten ++ rest).take (j * k) ++ (es.drop (j + 1)).flatten ++ (es.flatten ++ rest).drop (j * k + (es.drop (j + 1)).length * k) = (es.eraseIdx j).flatten ++ (es.flatten ++ rest).drop ((es.length - 1) * k) := by
  rw [flatten_take hl (by omega), List.eraseIdx_eq_take_drop_succ, List.flatten_append, List.length_drop, ← Nat.add_mul, show j + (es.length - (j + 1)) = es.length - 1 by omega]
theorem erase_lens {es : List (List Value)} {k : Nat} (hl : ∀ e ∈ es, e.length = k) (j : Nat) : ∀ e ∈ es.eraseIdx j, e.length = k := fun e he => hl e (List.mem_of_mem_eraseIdx he)
theorem erase_ones {es : List (List Value)} (hl : ∀ e ∈ es, ∀ v ∈ e, v.oneCell' = true) (j : Nat) : ∀ e ∈ es.eraseIdx j, ∀ v ∈ e, v.oneCell' = true := fun e he => hl e (List.mem_of_mem_eraseIdx he)
/-- a row without one element -/
theorem IsSl.erase {T k b c j : Nat} {es : List (List Value)} {rest : List Value} (hl : ∀ e ∈ es, e.length = k) (h1 : ∀ e ∈ es, ∀ v ∈ e, v.oneCell' = true) (hj : j < es.length) (h3 : es.length ≤ c) (h4 : rest.length = (c - es.length) * k) {cs : List Value} (hcs : cs = (es.eraseIdx j).flatten ++ (es.flatten ++ rest).drop ((es.length - 1) * k)) :
    IsSl T k (es.eraseIdx j) (.slice (some ⟨b, 0, none⟩) (es.length - 1) c) (blk b T cs.toArray) := by
  subst hcs
  have hlen : (es.eraseIdx j).length = es.length - 1 := List.length_eraseIdx_of_lt hj
  have := IsSl.mk (T := T) (b := b) (c := c) (rest := (es.flatten ++ rest).drop ((es.length - 1) * k)) (erase_lens hl j) (erase_ones h1 j) (by omega) (by
    rw [List.length_drop, List.length_append, flatten_len hl, h4, hlen]
    obtain ⟨m, hm⟩ : ∃ m, es.length = m + 1 := ⟨es.length - 1, by omega⟩
    rw [hm]
    obtain ⟨q, hq⟩ : ∃ q, c = m + 1 + q := ⟨c - (m + 1), by omega⟩
    rw [hq, show m + 1 + q - (m + 1) = q by omega, show m + 1 - 1 = m by omega, show m + 1 + q - m = q + 1 by omega, Nat.add_mul, Nat.add_mul]
    omega)
  rw [hlen] at this
  exact this
theorem Rd.drop_ {r : Frag} {b k T : Nat} {fr : Nat × Nat} {es : List (List Value)} {rest : List Value} (h : r b = some (.cells (es.flatten ++ rest).toArray T fr)) (hl : ∀ e ∈ es, e.length = k) (h1 : ∀ e ∈ es, ∀ v ∈ e, v.oneCell' = true) (j : Nat) (q : Option Addr) (hq : j < es.length → q = some ⟨b, j * k, none⟩) : Rd r q k (es.drop j) := by
  refine ⟨fun e he => hl e (List.mem_of_mem_drop he), fun e he => h1 e (List.mem_of_mem_drop he), ?_⟩
  rcases Nat.lt_or_ge j es.length with hj | hj
  · right
    refine ⟨b, j * k, _, T, fr, hq hj, h, fun i v hv => ?_⟩
    have hd : es.flatten = (es.take j).flatten ++ (es.drop j).flatten := by rw [← List.flatten_append, List.take_append_drop]
    have hlen : (es.take j).flatten.length = j * k := by
      rw [flatten_len (fun e he => hl e (List.mem_of_mem_take he)), List.length_take, Nat.min_eq_left (by omega)]
    have h2 := (List.getElem?_eq_some_iff.1 hv).1
    simp only [List.getElem?_toArray]
    rw [hd, List.append_assoc, List.getElem?_append_right (by omega), hlen, show j * k + i - j * k = i by omega, List.getElem?_append_left h2]
    exact hv
  · left; exact List.drop_of_length_le hj
end Go.SL
namespace Go.SL
open Go.RowKit
variable {P : Program} {n : Nat}
section
variable {ops : Array Oper} {R W : List Frag} {K : Nat → Nat} {Q : Post} {i : Nat} {l : List Nat} {o : Oper} {ρ : Regs} {L : List Frag}
/-- a first change whose outcome is left open -/
theorem TD.exF {A F : List Frag} {E : Value → List Frag → Prop} (hi : ops[i]? = some o) (hK : K i = 2) (hL : (W ++ L).Perm (A ++ F)) (hw : Wants n ops ρ o true) (hd : dok n o.dst = true)
    (hA : ∀ {G : List Frag}, EX P ρ (A ++ G) o (fun v L' => ∃ A', L' = A' ++ G ∧ E v A')) (k : ∀ v A', E v A' → TD P n ops R W K Q l (dpush o.dst v ρ) true (A' ++ F)) : TD P n ops R W K Q (i :: l) ρ false L := fun a hr =>
  .ef (E := fun v L' => ∃ A', L' = A' ++ F ∧ E v A') hi hK (hw a hr) (fun w G hs => by
    have hp : (R ++ (W ++ L) ++ G).Perm (A ++ (R ++ F ++ G)) := by
      refine ((hL.append_left R).append_right G).trans ?_
      simp only [List.append_assoc]
      exact List.perm_append_comm_assoc ..
    obtain ⟨v, L', w', h1, ⟨A', h2, h3⟩, h4, h5⟩ := hA n a w hr (hs.perm hp)
    refine ⟨v, A' ++ F, w', .inl h1, ⟨A', rfl, h3⟩, ?_, h5⟩
    rw [h2] at h4
    refine h4.perm ?_
    simp only [List.append_assoc]
    exact List.perm_append_comm_assoc ..) (fun v L' ⟨A', h1, h2⟩ => by subst h1; exact k v A' h2 _ (hr.put hd v))
end
theorem perm4 {a b c d : Frag} {F : List Frag} : ((a :: b :: c :: F) ++ [d]).Perm ([c, d] ++ (a :: b :: F)) :=
  ((((List.perm_append_singleton d F).cons c).cons b).cons a).trans ((List.perm_append_comm (l₁ := [a, b]) (l₂ := [c, d])).append_right F)
end Go.SL
namespace Go.SL
theorem IsSl.cleared {T k b c o m : Nat} {es : List (List Value)} {tl zs : List Value} (hl : ∀ e ∈ es, e.length = k) (h1 : ∀ e ∈ es, ∀ v ∈ e, v.oneCell' = true) (hc : es.length ≤ c) (ho : o = es.length * k) (hm : m = o + zs.length) (hz : zs.length ≤ tl.length) (ht : tl.length = (c - es.length) * k) :
    IsSl T k es (.slice (some ⟨b, 0, none⟩) es.length c) (blk b T ((es.flatten ++ tl).take o ++ zs ++ (es.flatten ++ tl).drop m).toArray) := by
  subst hm; subst ho
  have hf := flatten_len hl
  rw [← hf, List.take_left, List.append_assoc]
  exact IsSl.mk hl h1 hc (by rw [List.length_append, List.length_drop, List.length_append, hf]; omega)
end Go.SL
namespace Go.SL
theorem perm5 {x m s : Frag} {F : List Frag} : (x :: m :: s :: F).Perm ([s, x] ++ (m :: F)) :=
  ((List.Perm.swap s m F).cons x).trans (List.Perm.swap ..)
theorem perm5' {x m s : Frag} {F : List Frag} : ([s, x] ++ (m :: F)).Perm (x :: m :: s :: F) := perm5.symm
theorem perm6 {s b x m : Frag} {F : List Frag} : (s :: b :: x :: m :: F).Perm ([b, x] ++ ([m, s] ++ F)) :=
  (List.perm_append_comm (l₁ := [s]) (l₂ := [b, x, m])).append_right F
end Go.SL
namespace Go.SL
theorem perm7 {x m s : Frag} {F : List Frag} : (x :: m :: s :: F).Perm ([s] ++ ([x, m] ++ F)) := (List.perm_append_comm (l₁ := [x, m]) (l₂ := [s])).append_right F
theorem perm7' {x m s : Frag} {F : List Frag} : ([s] ++ ([x, m] ++ F)).Perm (x :: m :: s :: F) := perm7.symm
end Go.SL
namespace Go.SL
theorem Out.introN {P : Program} {rs : List ResultVar} {post : Value → List Frag → Prop} {F : List Frag} {ρ : Regs} {L : List Frag} {vs : List Value} {X L' : List Frag} (h1 : Res P ρ L rs vs) (h2 : post (pack vs) L') (h3 : L.Perm (X ++ (L' ++ F))) : Out P rs post F .normal ρ L := ⟨vs, X, L', L', h1, h2, h3, .refl _⟩
end Go.SL
namespace Go.SL
theorem perm2 {m s : Frag} {F : List Frag} : (m :: s :: F).Perm ([s] ++ ([m] ++ F)) := .swap ..
theorem perm2' {m s : Frag} {F : List Frag} : ([s] ++ ([m] ++ F)).Perm (m :: s :: F) := .swap ..
end Go.SL
namespace Go.SL
open Go.RowKit
variable {P : Program} {n : Nat}
section
variable {ops : Array Oper} {R W : List Frag} {K : Nat → Nat} {Q : Post} {i : Nat} {l : List Nat} {ρ : Regs} {L : List Frag} {d : Option Tmp} {t : TypeId} {p : String} {af : Array Edge} {g : Option (Nat × Bool)}
/-- append as the first change -/
theorem TD.appF {T e k bytes : Nat} {z : Value} [hS : SliceT P T e k] [hE : ElemT P e k bytes z] {x y : Operand} {v : Value} {q2 : Option Addr} {c2 : Nat} {es es2 : List (List Value)} {rs r2 : Frag} {F : List Frag}
    (hi : ops[i]? = some ⟨d, .call ⟨.builtin .append, #[x, y], #[T, T]⟩, t, p, af, g⟩) (hK : K i = 2) (hx : rev ρ x = some v) (hy : rev ρ y = some (.slice q2 es2.length c2)) (h1 : IsSl e k es v rs) (h2 : Rd r2 q2 k es2) (hL : (W ++ L).Perm ([rs, r2] ++ F)) (hb : 2 * (es.length + es2.length) * bytes ≤ 281474976710656) (hb2 : es.length + es2.length ≤ 281474976710656)
    (hw : Wants n ops ρ ⟨d, .call ⟨.builtin .append, #[x, y], #[T, T]⟩, t, p, af, g⟩ true) (hd : dok n d = true)
    (kk : ∀ v s2, IsSl e k (es ++ es2) v s2 → TD P n ops R W K Q l (dpush d v ρ) true (s2 :: r2 :: F)) : TD P n ops R W K Q (i :: l) ρ false L :=
  TD.exF (A := [rs, r2]) (E := fun v A' => ∃ s2, A' = [s2, r2] ∧ IsSl e k (es ++ es2) v s2) hi hK hL hw hd (fun {G} n a w hr hs => by
    obtain ⟨v2, L2, w2, g1, ⟨s2, rfl, g2⟩, g3, g4⟩ := EX.append (P := P) (T := T) (e := e) (x := x) (y := y) (ts := #[T, T]) (L := r2 :: G) (d := d) (t := t) (p := p) (af := af) (g := g) hx hy rfl h1 h2 (.tail _ (.head _)) hb hb2 n a w hr hs
    exact ⟨v2, _, w2, g1, ⟨[s2, r2], rfl, s2, rfl, g2⟩, g3, g4⟩) (fun v A' ⟨s2, h3, h4⟩ => by subst h3; exact kk v s2 h4)
end
end Go.SL
namespace Go.SL
open Go.RowKit
variable {P : Program} {n : Nat}
/-- which function a method is, and what it is given -/
class Meth (P : Program) (t : Nat) (v : Value) (name : String) (f : outParam Nat) (recv : outParam Value) : Prop where
  run : ∀ w, (method (P.types.size + Made.depth) t v name).run P w = .ok (f, recv) w
theorem Meth.of {t : Nat} {v : Value} {name : String} {f : Nat} {recv : Value} (h : ∀ m w, (method (m + 1) t v name).run P w = .ok (f, recv) w) (hs : P.types.size + Made.depth ≠ 0) : Meth P t v name f recv := ⟨fun w => by
  obtain ⟨m, hm⟩ := Nat.exists_eq_succ_of_ne_zero hs
  rw [hm]; exact h m w⟩
theorem missing_some {want : Array (String × TypeId)} {got : Array Method} {s : String} (h : (want.toList.filter fun (q : String × TypeId) => !got.any fun m => m.name == q.1 && m.sig == q.2).map (·.1) = [s]) : ∃ m, Instr.missingMethod want got = some m := by
  unfold Instr.missingMethod
  simp only [h]
  simp only [List.partition, List.partition.loop]
  split <;> simp_all [Instr.least]
section
variable {ρ : Regs} {L : List Frag} {d : Option Tmp} {t : TypeId} {p : String} {af : Array Edge} {g : Option (Nat × Bool)}
theorem LD.tassert {x : Operand} {xt as_ : TypeId} {ok : Bool} {u v : Value} (hx : rev ρ x = some u) (h : ∀ w, (Instr.typeAssert u xt as_ ok).run P w = .ok v w) : LD P ρ L ⟨d, .typeAssert x xt as_ ok, t, p, af, g⟩ v := fun n a w hr _ => by simp [execOp, hr.eval hx, h]
theorem CL.inv {f : Nat} {T : Nat} {v recv : Value} {name : String} [hm : Meth P T v name f recv] [hf : FnAt P f] {r : Operand} {xs : List Operand} {vs : List Value} {ts : Array TypeId} (hr : rev ρ r = some (.iface T v)) (h : revl ρ xs = some vs) : CL P ρ ⟨d, .call ⟨.invoke r name, xs.toArray, ts⟩, t, p, af, g⟩ f (recv :: vs) := fun n a w hrep => by
  have h1 := revl_eval hrep h
  have h2 := hm.run w
  have h3 := hf.run (recv :: vs).toArray w
  have e1 : xs.toArray.map a.eval = vs.toArray := by rw [← h1]; simp
  have e2 : (#[recv] ++ vs.toArray : Array Value) = (recv :: vs).toArray := by simp
  have e3 : ((#[Value.iface T v] ++ vs.toArray : Array Value)[0]?) = some (.iface T v) := by simp
  have e4 : (#[Value.iface T v] ++ vs.toArray : Array Value).extract 1 (#[Value.iface T v] ++ vs.toArray : Array Value).size = vs.toArray := by simp
  simp only [execOp, resolve, hrep.eval hr, e1, Sem.run_bind, Sem.run_pure, Result.andThen_ok, invoke, e3, e4, callMethod, run_program, h2, e2, h3]
theorem LD.idx1 {T e n : Nat} [hs : ArrT P T n e 1] [ha : One P e] {x y : Operand} {i : Nat} {l : List Value} {v : Value} (hx : rev ρ x = some (.agg l.toArray)) (hy : rev ρ y = some (.int .i64 (i : Int))) (hi : i < n) (hv : l[i]? = some v) :
    LD P ρ L ⟨d, .index T x y, t, p, af, g⟩ v := LD.index1 hx hy (by omega) (by simpa using hv)
end
end Go.SL
namespace Go.SL
open Go.RowKit
variable {P : Program} {n : Nat}
section
variable {ops : Array Oper} {R W : List Frag} {K : Nat → Nat} {Q : Post} {i : Nat} {l : List Nat} {o : Oper} {ρ : Regs} {L : List Frag}
/-- a call that changes one part, as the first change -/
theorem TD.cwX {f : Nat} {args : List Value} {r : Frag} {j : Nat} {φ : Value → Frag → Prop} (hi : ops[i]? = some o) (hK : K i = 2) (hc : CL P ρ o f args) (hf : FnW P f args r φ) (hj : W[j]? = some r) (hw : Wants n ops ρ o true) (hd : dok n o.dst = true)
    (k : ∀ v r', φ v r' → TD P n ops R W K Q l (dpush o.dst v ρ) true (W.set j r')) : TD P n ops R W K Q (i :: l) ρ false [] :=
  TD.cl (F := R ++ W.eraseIdx j) hi hK hc hf (by
    show (R ++ (W ++ [])).Perm ([r] ++ (R ++ W.eraseIdx j))
    rw [List.append_nil]
    exact ((perm_get hj).append_left R).trans (List.perm_middle (l₁ := R))) hw hd fun v L' ⟨r', h1, h2⟩ => ⟨W.set j r', by
      subst h2
      exact (List.perm_middle (l₁ := R)).symm.trans ((perm_set r' (List.getElem?_eq_some_iff.1 hj).1).symm.append_left R), k v r' h1⟩
end
theorem dis_mid (X m F : List Frag) (h : (X ++ (m ++ F)).Pairwise Disj) : m.Pairwise Disj := (List.pairwise_append.1 (List.pairwise_append.1 h).2.1).1
end Go.SL
namespace Go.SL
open Go.RowKit
variable {P : Program} {n : Nat}
section
variable {ops : Array Oper} {R : List Frag} {K : Nat → Nat} {Q : Post} {i : Nat} {l : List Nat} {o : Oper} {ρ : Regs} {ph : Bool} {L : List Frag}
theorem TD.crn {f : Nat} {args : List Value} {r : Frag} {φ : Value → Frag → Prop} (hi : ops[i]? = some o) (hK : K i = 2) (hc : CL P ρ o f args) (hf : FnRN P f args r φ) (hr : r ∈ R) (hw : Wants n ops ρ o true) (hd : dok n o.dst = true)
    (k : ∀ v r', φ v r' → TD P n ops R [] K Q l (dpush o.dst v ρ) true (r' :: L)) : TD P n ops R [] K Q (i :: l) ρ ph L := by
  obtain ⟨j, hj, e⟩ := List.mem_iff_getElem.1 hr
  have hp := perm_get (List.getElem?_eq_getElem hj)
  rw [e] at hp
  exact TD.cl (F := R.eraseIdx j ++ L) hi hK hc hf (by
    have : (R ++ L).Perm ([r] ++ (R.eraseIdx j ++ L)) := by rw [← List.append_assoc]; exact hp.append_right L
    cases ph <;> exact this) hw hd fun v L' ⟨r', h1, h2⟩ => ⟨r' :: L, by
      subst h2
      refine (show ([r', r] ++ (R.eraseIdx j ++ L)).Perm (r' :: (R ++ L)) from List.Perm.cons r' ?_).trans (List.perm_middle (l₁ := R)).symm
      have : (r :: (R.eraseIdx j ++ L)).Perm (R ++ L) := by
        have := hp.symm.append_right L
        simpa using this
      exact this, k v r' h1⟩
/-- a call that reads and changes several parts, all else is only read -/
theorem TD.clR {f : Nat} {args : List Value} {X pre F : List Frag} {post : Value → List Frag → Prop} (hi : ops[i]? = some o) (hK : K i = 2) (hc : CL P ρ o f args) (hf : Fn P f args pre post) (hR : R = X ++ (pre ++ F)) (hw : Wants n ops ρ o true) (hd : dok n o.dst = true)
    (hsame : ∀ v L', post v L' → L' = pre) (k : ∀ v, post v pre → TD P n ops R [] K Q l (dpush o.dst v ρ) true L) : TD P n ops R [] K Q (i :: l) ρ ph L := by
  subst hR
  exact TD.cl (F := X ++ F ++ L) hi hK hc hf (by
    have : ((X ++ (pre ++ F)) ++ L).Perm (pre ++ (X ++ F ++ L)) := by
      simp only [List.append_assoc]; exact List.perm_append_comm_assoc ..
    cases ph <;> exact this) hw hd fun v L' h => ⟨L, by
      rw [hsame v L' h]; simp only [List.append_assoc]; exact List.perm_append_comm_assoc .., k v (by have := hsame v L' h; rw [← this]; exact h)⟩
end
theorem Sat.unfold' {w : World} {l F : List Frag} (hd : l.Pairwise Disj) (h : Sat w ([un l] ++ F)) : Sat w (l ++ F) := h.unfold hd
/-- parts that are one part to others -/
theorem Fn.pack {f : Nat} {args : List Value} {l : List Frag} {post : Value → List Frag → Prop} {φ : Value → Frag → Prop} (h : Fn P f args l post) (hd : l.Pairwise Disj) (hp : ∀ v l', post v l' → l'.Pairwise Disj → φ v (un l')) : FnW P f args (un l) φ := fun w F hs =>
  (h w F (Sat.unfold' hd hs)).mono fun e w' ⟨v, L', h1, h2, h3, h4⟩ => ⟨v, [un L'], h1, ⟨un L', hp v L' h2 (List.pairwise_append.1 h3.dis).1, rfl⟩, h3.fold, h4⟩
theorem Fn.packR {f : Nat} {args : List Value} {l : List Frag} {post : Value → List Frag → Prop} {φ : Value → Prop} (h : Fn P f args l post) (hd : l.Pairwise Disj) (hp : ∀ v l', post v l' → φ v ∧ l' = l) : FnR P f args (un l) φ := fun w F hs =>
  (h w F (Sat.unfold' hd hs)).mono fun e w' ⟨v, L', h1, h2, h3, h4⟩ => ⟨v, [un L'], h1, ⟨(hp v L' h2).1, by rw [(hp v L' h2).2]⟩, h3.fold, h4⟩
end Go.SL
namespace Go.SL
open Go.RowKit
variable {P : Program} {n : Nat}
section
variable {ops : Array Oper} {R W : List Frag} {K : Nat → Nat} {Q : Post} {i : Nat} {l : List Nat} {o : Oper} {ρ : Regs} {L : List Frag}
theorem TD.cpF {f : Nat} {args : List Value} {φ : Value → Prop} (hi : ops[i]? = some o) (hK : K i = 2) (hc : CL P ρ o f args) (hf : FnP P f args φ) (hw : Wants n ops ρ o true) (hd : dok n o.dst = true)
    (k : ∀ v, φ v → TD P n ops R W K Q l (dpush o.dst v ρ) true W) : TD P n ops R W K Q (i :: l) ρ false [] :=
  TD.cl (F := R ++ W) hi hK hc hf (by show (R ++ (W ++ [])).Perm ([] ++ (R ++ W)); rw [List.append_nil]; exact .refl _) hw hd fun v L' ⟨h1, h2⟩ => ⟨W, by subst h2; exact .refl _, k v h1⟩
theorem TD.cpT {f : Nat} {args : List Value} {φ : Value → Prop} (hi : ops[i]? = some o) (hK : K i = 2) (hc : CL P ρ o f args) (hf : FnP P f args φ) (hw : Wants n ops ρ o true) (hd : dok n o.dst = true)
    (k : ∀ v, φ v → TD P n ops R W K Q l (dpush o.dst v ρ) true L) : TD P n ops R W K Q (i :: l) ρ true L :=
  TD.cl (F := R ++ L) hi hK hc hf (.refl _) hw hd fun v L' ⟨h1, h2⟩ => ⟨L, by subst h2; exact .refl _, k v h1⟩
theorem TD.cwXT {f : Nat} {args : List Value} {r : Frag} {j : Nat} {φ : Value → Frag → Prop} (hi : ops[i]? = some o) (hK : K i = 2) (hc : CL P ρ o f args) (hf : FnW P f args r φ) (hj : L[j]? = some r) (hw : Wants n ops ρ o true) (hd : dok n o.dst = true)
    (k : ∀ v r', φ v r' → TD P n ops R W K Q l (dpush o.dst v ρ) true (L.set j r')) : TD P n ops R W K Q (i :: l) ρ true L :=
  TD.cl (F := R ++ L.eraseIdx j) hi hK hc hf (by
    show (R ++ L).Perm ([r] ++ (R ++ L.eraseIdx j))
    exact ((perm_get hj).append_left R).trans (List.perm_middle (l₁ := R))) hw hd fun v L' ⟨r', h1, h2⟩ => ⟨L.set j r', by
      subst h2
      exact (List.perm_middle (l₁ := R)).symm.trans ((perm_set r' (List.getElem?_eq_some_iff.1 hj).1).symm.append_left R), k v r' h1⟩
/-- a call that takes several parts, the first that changes -/
theorem TD.clX {f : Nat} {args : List Value} {X pre F : List Frag} {post : Value → List Frag → Prop} (hi : ops[i]? = some o) (hK : K i = 2) (hc : CL P ρ o f args) (hf : Fn P f args pre post) (hW : W = X ++ (pre ++ F)) (hw : Wants n ops ρ o true) (hd : dok n o.dst = true)
    (k : ∀ v L', post v L' → TD P n ops R W K Q l (dpush o.dst v ρ) true (X ++ (L' ++ F))) : TD P n ops R W K Q (i :: l) ρ false [] :=
  TD.cl (F := R ++ (X ++ F)) hi hK hc hf (by
    subst hW
    show (R ++ ((X ++ (pre ++ F)) ++ [])).Perm _
    rw [List.append_nil]
    exact ((List.perm_append_comm_assoc X pre F).append_left R).trans (List.perm_append_comm_assoc R pre (X ++ F))) hw hd fun v L' h => ⟨X ++ (L' ++ F), by
      exact (List.perm_append_comm_assoc L' R (X ++ F)).trans ((List.perm_append_comm_assoc L' X F).append_left R), k v L' h⟩
theorem TD.clXT {f : Nat} {args : List Value} {X pre F : List Frag} {post : Value → List Frag → Prop} (hi : ops[i]? = some o) (hK : K i = 2) (hc : CL P ρ o f args) (hf : Fn P f args pre post) (hW : L = X ++ (pre ++ F)) (hw : Wants n ops ρ o true) (hd : dok n o.dst = true)
    (k : ∀ v L', post v L' → TD P n ops R W K Q l (dpush o.dst v ρ) true (X ++ (L' ++ F))) : TD P n ops R W K Q (i :: l) ρ true L :=
  TD.cl (F := R ++ (X ++ F)) hi hK hc hf (by
    subst hW
    show (R ++ (X ++ (pre ++ F))).Perm _
    exact ((List.perm_append_comm_assoc X pre F).append_left R).trans (List.perm_append_comm_assoc R pre (X ++ F))) hw hd fun v L' h => ⟨X ++ (L' ++ F), by
      exact (List.perm_append_comm_assoc L' R (X ++ F)).trans ((List.perm_append_comm_assoc L' X F).append_left R), k v L' h⟩
end
end Go.SL
namespace Go.SL
open Go.RowKit
variable {P : Program} {n : Nat}
section
variable {ops : Array Oper} {R W : List Frag} {K : Nat → Nat} {Q : Post} {i : Nat} {l : List Nat} {o : Oper} {ρ : Regs} {L : List Frag}
theorem TD.rx {v : Value} (hi : ops[i]? = some o) (hK : K i = 1) (h : LD P ρ (R ++ W) o v) (hg : o.guard = none) (hd : dok n o.dst = true) (k : TD P n ops R W K Q l (dpush o.dst v ρ) false L) : TD P n ops R W K Q (i :: l) ρ false L := .rd hi hK h (.un hg) hd k
theorem TD.rxy {v : Value} {j t : Nat} {want b : Bool} (hi : ops[i]? = some o) (hK : K i = 1) (h : LD P ρ (R ++ W) o v) (hb : b = want) (hg : o.guard = some (j, want)) (hj : (ops[j]?).bind (·.dst) = some t) (hv : rget ρ t = some (.bool b)) (hd : dok n o.dst = true) (k : TD P n ops R W K Q l (dpush o.dst v ρ) false L) : TD P n ops R W K Q (i :: l) ρ false L := .rd hi hK h (.yes hg hj hv hb) hd k
end
theorem Lays.alloc {d : Option Tmp} {ty t : TypeId} {p : String} {af : Array Edge} {g : Option (Nat × Bool)} {z : Array Value} [hz : ZeroV P ty z] : Lays P ⟨d, .alloc ty, t, p, af, g⟩ := by
  refine ⟨ty, z, fun b => .pointer (some ⟨b, 0, none⟩), fun a w => ?_⟩
  obtain ⟨v, h1, h2⟩ := hz.run w
  simp [execOp, Instr.alloc, h1, newVar, newRow, h2]
theorem lay1 {ops : Array Oper} {ks : List Nat} (j0 : Nat) (hks : (ks.zipIdx).all (fun q => !Nat.beq q.1 4 || Nat.beq q.2 j0) = true) (h : ∀ o, ops[j0]? = some o → Lays P o) : ∀ j o, ops[j]? = some o → kof ks j = 4 → Lays P o := fun j o ho hk => by
  have hj : j = j0 := by
    unfold kof at hk
    rw [List.getD_eq_getElem?_getD] at hk
    cases hg : ks[j]? with
    | none => simp [hg] at hk
    | some x =>
      simp [hg] at hk
      subst hk
      have hm : (4, j) ∈ ks.zipIdx := by rw [List.mem_zipIdx_iff_getElem?]; exact hg
      have := List.all_eq_true.1 hks _ hm
      simpa using this
  subst hj; exact h o ho
end Go.SL
namespace Go.SL
theorem permNew {m b f a x : Frag} {F : List Frag} : (m :: b :: f :: a :: x :: F).Perm ([x] ++ ([m, a, f, b] ++ F)) := by
  have h1 : ([b, f, a, x] ++ F).Perm ([x, a, f, b] ++ F) := ((List.reverse_perm [b, f, a, x]).symm).append_right F
  exact (h1.cons m).trans (List.Perm.swap ..)
end Go.SL
namespace Go.SL
theorem Fn.frame {P : Program} {f : Nat} {args : List Value} {l : List Frag} {post : Value → List Frag → Prop} (h : Fn P f args l post) (M : List Frag) : Fn P f args (l ++ M) (fun v L' => ∃ l', post v l' ∧ L' = l' ++ M) := fun w F hs =>
  (h w (M ++ F) (by rw [← List.append_assoc]; exact hs)).mono fun e w' ⟨v, L', h1, h2, h3, h4⟩ => ⟨v, L' ++ M, h1, ⟨L', h2, rfl⟩, by rw [List.append_assoc]; exact h3, h4⟩
end Go.SL
