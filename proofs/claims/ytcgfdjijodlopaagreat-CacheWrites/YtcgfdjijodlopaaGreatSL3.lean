/- A part of proofs about the given program. No condition. -/
import Derived.Test.YtcgfdjijodlopaaGreatSL2
set_option linter.all false
/- What each operation does. -/
namespace Go.SL
open Go.RowKit
variable {P : Program}

/-! ### types -/
class FieldAt (P : Program) (s f : Nat) (off : outParam Nat) : Prop where
  run : ∀ (a : Addr) (w : World), (Instr.fieldAt s (.pointer (some a)) f).run P w = .ok (.pointer (some (a.add off))) w
theorem FieldAt.of {s f off k : Nat} {fs : Array Field} {fd : Field} (hu : P.underlying s = some (.struct fs)) (hf : fs[f]? = some fd) (ho : fd.offset = off) (hi : (P.info? fd.type).map (·.size) = some (k + 1)) : FieldAt P s f off := ⟨fun a w => by
  cases hq : P.info? fd.type with
  | none => simp [hq] at hi
  | some i =>
    have hk : i.size = k + 1 := by simpa [hq] using hi
    simp [Instr.fieldAt, run_underlying hu, hf, Instr.sureAddr, fieldPlace, sizeOf, typeInfo, hq, hk, ho]⟩
theorem FieldAt.of' {s f off k : Nat} {fs : Array Field} {fd : Field} (hu : P.underlying s = some (.struct fs)) (hf : fs[f]? = some fd) (ho : fd.offset = off) (hi : ∀ w, (sizeOf fd.type).run P w = .ok (k + 1) w) : FieldAt P s f off := ⟨fun a w => by
  simp [Instr.fieldAt, run_underlying hu, hf, Instr.sureAddr, fieldPlace, hi, ho]⟩
/-- one cell -/
class One (P : Program) (t : Nat) : Prop where
  agg : ∀ w, (isAgg t).run P w = .ok false w
  size : ∀ w, (sizeOf t).run P w = .ok 1 w
theorem One.of {t : Nat} {d : TypeDesc} (hu : P.underlying t = some d) (hd : (match d with | .struct _ | .array _ _ => true | _ => false) = false) (hi : (P.info? t).map (·.size) = some 1) : One P t := ⟨fun w => by
  unfold isAgg; rw [Sem.run_bind, run_underlying hu w]; cases d <;> simp_all, fun w => by
  cases hq : P.info? t with
  | none => simp [hq] at hi
  | some i => have : i.size = 1 := by simpa [hq] using hi
              simp [sizeOf, typeInfo, hq, this]⟩
/-- a struct, or an array, of so many cells -/
class Agg (P : Program) (t : Nat) (k : outParam Nat) : Prop where
  agg : ∀ w, (isAgg t).run P w = .ok true w
  size : ∀ w, (sizeOf t).run P w = .ok k w
theorem Agg.of {t k : Nat} {d : TypeDesc} (hu : P.underlying t = some d) (hd : (match d with | .struct _ | .array _ _ => true | _ => false) = true) (hi : (P.info? t).map (·.size) = some k) : Agg P t k := ⟨fun w => by
  unfold isAgg; rw [Sem.run_bind, run_underlying hu w]; cases d <;> simp_all, fun w => by
  cases hq : P.info? t with
  | none => simp [hq] at hi
  | some i => have : i.size = k := by simpa [hq] using hi
              simp [sizeOf, typeInfo, hq, this]⟩
class ZeroV (P : Program) (t : Nat) (z : outParam (Array Value)) : Prop where
  run : ∀ w, ∃ v, (zeroValue t).run P w = .ok v w ∧ v.cells = z
theorem ZeroV.of {t : Nat} {z : Array Value} (hi : (P.info? t).bind (fun i => i.zero.map Value.cells) = some z) : ZeroV P t z := ⟨fun w => by
  cases hq : P.info? t with
  | none => simp [hq] at hi
  | some i =>
    cases hz : i.zero with
    | none => simp [hq, hz] at hi
    | some v => exact ⟨v, by simp [zeroValue, typeInfo, hq, hz], by simpa [hq, hz] using hi⟩⟩
/-- a slice type, and how many cells its elements have -/
class SliceT (P : Program) (t : Nat) (e k : outParam Nat) : Prop where
  und : P.underlying t = some (.slice e)
  size : ∀ w, (sizeOf e).run P w = .ok k w
theorem SliceT.of {t e k : Nat} (hu : P.underlying t = some (.slice e)) (hi : (P.info? e).map (·.size) = some k) : SliceT P t e k := ⟨hu, fun w => by
  cases hq : P.info? e with
  | none => simp [hq] at hi
  | some i => have : i.size = k := by simpa [hq] using hi
              simp [sizeOf, typeInfo, hq, this]⟩
class ArrT (P : Program) (t : Nat) (len e k : outParam Nat) : Prop where
  und : P.underlying t = some (.array len e)
  size : ∀ w, (sizeOf e).run P w = .ok k w
theorem Addr.add_none (b o k : Nat) : (⟨b, o, none⟩ : Addr).add k = ⟨b, o + k, none⟩ := by
  unfold Addr.add; split
  · rename_i h; subst h; rfl
  · rfl

theorem wrap_in {i : Int} (h : -9223372036854775808 ≤ i ∧ i ≤ 9223372036854775807) : IntKind.wrap .i64 i = i := by simp [IntKind.wrap, IntKind.bits, IntKind.signed]; omega
/-! ### registers alone -/
section
variable {ρ : Regs} {L : List Frag} {d : Option Tmp} {t : TypeId} {p : String} {af : Array Edge} {g : Option (Nat × Bool)}

theorem LD.move {x : Operand} {v : Value} (h : rev ρ x = some v) : LD P ρ L ⟨d, .move x, t, p, af, g⟩ v := fun n a w hr _ => by simp [execOp, hr.eval h]
theorem LD.assign {x : Operand} {v : Value} (h : rev ρ x = some v) : LD P ρ L ⟨d, .assign x, t, p, af, g⟩ v := fun n a w hr _ => by simp [execOp, hr.eval h]
theorem LD.pickT {c x y : Operand} {b : Bool} {v : Value} (hc : rev ρ c = some (.bool b)) (hb : b = true) (h : rev ρ x = some v) : LD P ρ L ⟨d, .pick c x y, t, p, af, g⟩ v := fun n a w hr _ => by
  simp [execOp, hr.eval hc, hr.eval h, asBool, hb]
theorem LD.pickF {c x y : Operand} {b : Bool} {v : Value} (hc : rev ρ c = some (.bool b)) (hb : b = false) (h : rev ρ y = some v) : LD P ρ L ⟨d, .pick c x y, t, p, af, g⟩ v := fun n a w hr _ => by
  simp [execOp, hr.eval hc, hr.eval h, asBool, hb]
theorem LD.nilCheck {x : Operand} {q : Addr} (h : rev ρ x = some (.pointer (some q))) : LD P ρ L ⟨d, .nilCheck x, t, p, af, g⟩ (.pointer (some q)) := fun n a w hr _ => by simp [execOp, hr.eval h]
theorem LD.fieldAddr {s f off b o : Nat} [hf : FieldAt P s f off] {x : Operand} (h : rev ρ x = some (.pointer (some ⟨b, o, none⟩))) :
    LD P ρ L ⟨d, .fieldAddr s x f, t, p, af, g⟩ (.pointer (some ⟨b, o + off, none⟩)) := fun n a w hr _ => by
  simp only [execOp, hr.eval h, Sem.run_bind, hf.run, Addr.add_none]; rfl
theorem LD.not {ty : TypeId} {x : Operand} {b : Bool} (h : rev ρ x = some (.bool b)) : LD P ρ L ⟨d, .unOp .not ty x, t, p, af, g⟩ (.bool (!b)) := fun n a w hr _ => by simp [execOp, hr.eval h, Op.unary]
theorem LD.neg {ty : TypeId} {x : Operand} {i : Int} (h : rev ρ x = some (.int .i64 i)) (hi : -9223372036854775807 ≤ i ∧ i ≤ 9223372036854775807) : LD P ρ L ⟨d, .unOp .neg ty x, t, p, af, g⟩ (.int .i64 (-i)) := fun n a w hr _ => by
  have e : IntKind.wrap .i64 (-i) = -i := by simp [IntKind.wrap, IntKind.bits, IntKind.signed]; omega
  simp [execOp, hr.eval h, Op.unary, Op.intArith, e]
theorem LD.extract {x : Operand} {vs : Array Value} {i : Nat} {v : Value} (h : rev ρ x = some (.tuple vs)) (hv : vs[i]? = some v) : LD P ρ L ⟨d, .extract x i, t, p, af, g⟩ v := fun n a w hr _ => by
  simp [execOp, hr.eval h, Instr.extract, hv]
theorem LD.bin {op : BinOp} {x y : Operand} {tx ty : TypeId} {vx vy v : Value} (hx : rev ρ x = some vx) (hy : rev ρ y = some vy) (hg : ∀ (x y : Operand) (w : World), (eqGuard op tx x y vx vy).run P w = .ok () w)
    (h : ∀ w, (binOp op tx vx vy).run P w = .ok v w) : LD P ρ L ⟨d, .binOp op tx x y ty, t, p, af, g⟩ v := fun n a w hr _ => by
  simp [execOp, hr.eval hx, hr.eval hy, hg, h]
theorem eqGuard_int (op : BinOp) (tx : TypeId) (x y : Operand) (j k : IntKind) (a b : Int) (w : World) : (eqGuard op tx x y (.int j a) (.int k b)).run P w = .ok () w := by
  unfold eqGuard; cases op <;> simp
theorem eqGuard_ptr (op : BinOp) (tx : TypeId) (x y : Operand) (a b : Option Addr) (w : World) : (eqGuard op tx x y (.pointer a) (.pointer b)).run P w = .ok () w := by
  unfold eqGuard; cases op <;> simp
theorem eqGuard_bool (op : BinOp) (tx : TypeId) (x y : Operand) (a b : Bool) (w : World) : (eqGuard op tx x y (.bool a) (.bool b)).run P w = .ok () w := by
  unfold eqGuard; cases op <;> simp
section ints
variable {x y : Operand} {tx ty : TypeId} {k : IntKind} {a b : Int} (hx : rev ρ x = some (.int k a)) (hy : rev ρ y = some (.int k b))
include hx hy
theorem LD.lss : LD P ρ L ⟨d, .binOp .lss tx x y ty, t, p, af, g⟩ (.bool (decide (a < b))) := LD.bin hx hy (fun _ _ _ => eqGuard_int ..) fun w => by simp [binOp, Op.intCmp]
theorem LD.leq : LD P ρ L ⟨d, .binOp .leq tx x y ty, t, p, af, g⟩ (.bool (decide (a ≤ b))) := LD.bin hx hy (fun _ _ _ => eqGuard_int ..) fun w => by simp [binOp, Op.intCmp]
theorem LD.gtr : LD P ρ L ⟨d, .binOp .gtr tx x y ty, t, p, af, g⟩ (.bool (decide (b < a))) := LD.bin hx hy (fun _ _ _ => eqGuard_int ..) fun w => by simp [binOp, Op.intCmp]
theorem LD.geq : LD P ρ L ⟨d, .binOp .geq tx x y ty, t, p, af, g⟩ (.bool (decide (b ≤ a))) := LD.bin hx hy (fun _ _ _ => eqGuard_int ..) fun w => by simp [binOp, Op.intCmp]
theorem LD.eql : LD P ρ L ⟨d, .binOp .eql tx x y ty, t, p, af, g⟩ (.bool (decide (a = b))) := LD.bin hx hy (fun _ _ _ => eqGuard_int ..) fun w => by
  have : (a == b) = decide (a = b) := rfl
  simp only [binOp, Op.intCmp]; simp [this]
theorem LD.neq : LD P ρ L ⟨d, .binOp .neq tx x y ty, t, p, af, g⟩ (.bool (!decide (a = b))) := LD.bin hx hy (fun _ _ _ => eqGuard_int ..) fun w => by
  have : (a != b) = !decide (a = b) := rfl
  simp only [binOp, Op.intCmp]; simp [this]
end ints
section arith
variable {x y : Operand} {tx ty : TypeId} {a b : Int} (hx : rev ρ x = some (.int .i64 a)) (hy : rev ρ y = some (.int .i64 b))
include hx hy
theorem LD.add (h : -9223372036854775808 ≤ a + b ∧ a + b ≤ 9223372036854775807) : LD P ρ L ⟨d, .binOp .add tx x y ty, t, p, af, g⟩ (.int .i64 (a + b)) := LD.bin hx hy (fun _ _ _ => eqGuard_int ..) fun w => by
  have e : IntKind.wrap .i64 (a + b) = a + b := by simp [IntKind.wrap, IntKind.bits, IntKind.signed]; omega
  simp [binOp, Op.intArith, e]
theorem LD.addw : LD P ρ L ⟨d, .binOp .add tx x y ty, t, p, af, g⟩ (.int .i64 (IntKind.wrap .i64 (a + b))) := LD.bin hx hy (fun _ _ _ => eqGuard_int ..) fun w => by simp [binOp, Op.intArith]
theorem LD.sub (h : -9223372036854775808 ≤ a - b ∧ a - b ≤ 9223372036854775807) : LD P ρ L ⟨d, .binOp .sub tx x y ty, t, p, af, g⟩ (.int .i64 (a - b)) := LD.bin hx hy (fun _ _ _ => eqGuard_int ..) fun w => by
  have e : IntKind.wrap .i64 (a - b) = a - b := by simp [IntKind.wrap, IntKind.bits, IntKind.signed]; omega
  simp [binOp, Op.intArith, e]
theorem LD.mul (h : -9223372036854775808 ≤ a * b ∧ a * b ≤ 9223372036854775807) : LD P ρ L ⟨d, .binOp .mul tx x y ty, t, p, af, g⟩ (.int .i64 (a * b)) := LD.bin hx hy (fun _ _ _ => eqGuard_int ..) fun w => by
  have e : IntKind.wrap .i64 (a * b) = a * b := by
    generalize a * b = z at h; simp [IntKind.wrap, IntKind.bits, IntKind.signed]; omega
  simp [binOp, Op.intArith, e]
theorem LD.rem (h : 0 ≤ a) (hb : 0 < b) : LD P ρ L ⟨d, .binOp .rem tx x y ty, t, p, af, g⟩ (.int .i64 (a % b)) := LD.bin hx hy (fun _ _ _ => eqGuard_int ..) fun w => by
  have e : a.tmod b = a % b := Int.tmod_eq_emod_of_nonneg h
  have hb' : ¬ b = 0 := by omega
  simp [binOp, Op.intDiv, e, hb']
theorem LD.quo (h : 0 ≤ a) (hb : 0 < b) (hu : a ≤ 9223372036854775807) : LD P ρ L ⟨d, .binOp .quo tx x y ty, t, p, af, g⟩ (.int .i64 (a / b)) := LD.bin hx hy (fun _ _ _ => eqGuard_int ..) fun w => by
  have e : a.tdiv b = a / b := Int.tdiv_eq_ediv_of_nonneg h
  have hb' : ¬ b = 0 := by omega
  have h1 : 0 ≤ a / b := Int.ediv_nonneg h (by omega)
  have h2 : a / b ≤ a := Int.ediv_le_self b h
  have e2 : IntKind.wrap .i64 (a / b) = a / b := by generalize a / b = z at h1 h2; simp [IntKind.wrap, IntKind.bits, IntKind.signed]; omega
  simp [binOp, Op.intDiv, e, hb', e2]
end arith
theorem eqi_nil {t e : TypeId} (hu : P.underlying t = some (.pointer e)) (a b : Option Addr) (hn : a = none ∨ b = none) (d : Nat) (w : World) : (Op.equalIn (d + 1) t (.pointer a) (.pointer b)).run P w = .ok (decide (a = b)) w := by
  rcases hn with rfl | rfl
  · cases b <;> simp [Op.equalIn, run_underlying hu]
  · cases a <;> simp [Op.equalIn, run_underlying hu]
theorem LD.ptrEql {x y : Operand} {tx ty : TypeId} {e : TypeId} {a b : Option Addr} (hx : rev ρ x = some (.pointer a)) (hy : rev ρ y = some (.pointer b)) (hu : P.underlying tx = some (.pointer e))
    (hn : a = none ∨ b = none) : LD P ρ L ⟨d, .binOp .eql tx x y ty, t, p, af, g⟩ (.bool (decide (a = b))) := LD.bin hx hy (fun _ _ _ => eqGuard_ptr ..) fun w => by
  have h := eqi_nil hu a b hn 9999 w
  simp only [binOp]
  simp only [Op.equal, Op.maxDepth, Sem.run_bind, h, Result.andThen_ok]; rfl
theorem LD.ptrNeq {x y : Operand} {tx ty : TypeId} {e : TypeId} {a b : Option Addr} (hx : rev ρ x = some (.pointer a)) (hy : rev ρ y = some (.pointer b)) (hu : P.underlying tx = some (.pointer e))
    (hn : a = none ∨ b = none) : LD P ρ L ⟨d, .binOp .neq tx x y ty, t, p, af, g⟩ (.bool (!decide (a = b))) := LD.bin hx hy (fun _ _ _ => eqGuard_ptr ..) fun w => by
  have h := eqi_nil hu a b hn 9999 w
  simp only [binOp]
  simp only [Op.equal, Op.maxDepth, Sem.run_bind, h, Result.andThen_ok]; rfl

/-! ### memory that is read -/
theorem mem_heap {w : World} (hs : Sat w L) {r : Frag} (hr : r ∈ L) {b : Nat} {o : Obj} (h : r b = some o) : w.heap[b]? = some o := hs.sub r hr b o h
theorem LD.load1f {ty : TypeId} [h1 : One P ty] {x : Operand} {b o : Nat} {r : Frag} {cs : Array Value} {T : TypeId} {fr : Nat × Nat} {v : Value} (hx : rev ρ x = some (.pointer (some ⟨b, o, none⟩)))
    (hr : r ∈ L) (hb : r b = some (.cells cs T fr)) (hc : cs[o]? = some v) : LD P ρ L ⟨d, .load ty x, t, p, af, g⟩ v := fun n a w ha hs => by
  have hw := mem_heap hs hr hb
  have hl : (loadVar ty ⟨b, o, none⟩).run P w = .ok v w := by
    simp only [loadVar, Sem.run_bind, h1.agg, Result.andThen_ok]
    have : w.cell? ⟨b, o, none⟩ = some v := by rw [cell_of_row w b o cs T fr hw, hc]
    simp [load, Sem.run, this]
  simp [execOp, ha.eval hx, Instr.loadAt, Instr.sureAddr, hl]
theorem LD.load1 {ty : TypeId} [One P ty] {x : Operand} {b o : Nat} {cs : Array Value} {T : TypeId} {v : Value} (hx : rev ρ x = some (.pointer (some ⟨b, o, none⟩)))
    (hr : blk b T cs ∈ L) (hc : cs[o]? = some v) : LD P ρ L ⟨d, .load ty x, t, p, af, g⟩ v := LD.load1f hx hr (blk_same b T cs) hc
theorem run_loadAgg {ty : TypeId} {k : Nat} [h1 : Agg P ty k] {w : World} {b o : Nat} {cs : Array Value} {T : TypeId} {fr : Nat × Nat} (hw : w.heap[b]? = some (.cells cs T fr)) {vs : Array Value}
    (hk : o + k ≤ cs.size) (hv : cs.extract o (o + k) = vs) : (loadVar ty ⟨b, o, none⟩).run P w = .ok (.agg vs) w := by
  have hsz : vs.size = k := by rw [← hv]; simp; omega
  have hl : (loadCells ⟨b, o, none⟩ vs.toList.length).run P w = .ok vs.toList.toArray w :=
    run_loadCells_list (P := P) w ⟨b, o, none⟩ vs.toList (fun j v hj => by
      rw [Addr.add_none, cell_of_row w b (o + j) cs T fr hw]
      have hj' : vs[j]? = some v := by simpa using hj
      have hlt : j < vs.size := (Array.getElem?_eq_some_iff.1 hj').1
      rw [← hv, Array.getElem?_extract] at hj'
      split at hj'
      · exact hj'
      · cases hj')
  simp only [Array.length_toList, Array.toArray_toList, hsz] at hl
  simp only [loadVar, Sem.run_bind, h1.agg, Result.andThen_ok, if_true, h1.size, hl]
  rfl
theorem LD.loadAf {ty : TypeId} {k : Nat} [h1 : Agg P ty k] {x : Operand} {b o : Nat} {r : Frag} {cs vs : Array Value} {T : TypeId} {fr : Nat × Nat} (hx : rev ρ x = some (.pointer (some ⟨b, o, none⟩)))
    (hr : r ∈ L) (hb : r b = some (.cells cs T fr)) (hk : o + k ≤ cs.size) (hv : cs.extract o (o + k) = vs) : LD P ρ L ⟨d, .load ty x, t, p, af, g⟩ (.agg vs) := fun n a w ha hs => by
  have hl := run_loadAgg (P := P) (ty := ty) (mem_heap hs hr hb) hk hv
  simp [execOp, ha.eval hx, Instr.loadAt, Instr.sureAddr, hl]
theorem LD.loadA {ty : TypeId} {k : Nat} [Agg P ty k] {x : Operand} {b o : Nat} {cs vs : Array Value} {T : TypeId} (hx : rev ρ x = some (.pointer (some ⟨b, o, none⟩)))
    (hr : blk b T cs ∈ L) (hk : o + k ≤ cs.size) (hv : cs.extract o (o + k) = vs) : LD P ρ L ⟨d, .load ty x, t, p, af, g⟩ (.agg vs) := LD.loadAf hx hr (blk_same b T cs) hk hv

/-! ### new blocks -/
theorem NB.box {ty : TypeId} {x : Operand} {v : Value} (h : rev ρ x = some v) : NB P ρ L ⟨d, .box ty x, t, p, af, g⟩ ty v.cells (fun b => .pointer (some ⟨b, 0, none⟩)) := fun n a w hr _ => by
  simp [execOp, hr.eval h, Instr.box, newVar, newRow]
theorem NB.alloc {ty : TypeId} {z : Array Value} [hz : ZeroV P ty z] : NB P ρ L ⟨d, .alloc ty, t, p, af, g⟩ ty z (fun b => .pointer (some ⟨b, 0, none⟩)) := fun n a w hr _ => by
  obtain ⟨v, h1, h2⟩ := hz.run w
  simp [execOp, Instr.alloc, h1, newVar, newRow, h2]

/-! ### stores -/
theorem perm_get {α : Type} : ∀ {L : List α} {i : Nat} {x : α}, L[i]? = some x → L.Perm (x :: L.eraseIdx i)
  | [], _, _, h => by simp at h
  | y :: l, 0, x, h => by simp at h; subst h; exact .refl _
  | y :: l, i + 1, x, h => by
    have := perm_get (L := l) (i := i) (x := x) (by simpa using h)
    exact (this.cons y).trans (.swap ..)
theorem perm_set {α : Type} : ∀ {L : List α} {i : Nat} (x : α), i < L.length → (L.set i x).Perm (x :: L.eraseIdx i)
  | [], _, _, h => by simp at h
  | y :: l, 0, x, _ => .refl _
  | y :: l, i + 1, x, h => by
    have := perm_set (L := l) (i := i) x (by simpa using h)
    exact (this.cons y).trans (.swap ..)
theorem Sat.setAt {w : World} (hs : Sat w L) {i b : Nat} {T : TypeId} {cs : Array Value} (hi : L[i]? = some (blk b T cs)) (o : Nat) (v : Value) : Sat (w.setCell ⟨b, o, none⟩ v) (L.set i (blk b T (cs.setIfInBounds o v))) :=
  ((hs.perm (perm_get hi)).set o v).perm (perm_set _ (List.getElem?_eq_some_iff.1 hi).1).symm
theorem EF.store1 {ty : TypeId} [h1 : One P ty] {x y : Operand} {b o i : Nat} {T : TypeId} {cs : Array Value} {v : Value} (hx : rev ρ x = some (.pointer (some ⟨b, o, none⟩))) (hy : rev ρ y = some v) (hv : v.oneCell' = true)
    (hi : L[i]? = some (blk b T cs)) (ho : o < cs.size) : EF P ρ L ⟨d, .store ty x y, t, p, af, g⟩ undef (L.set i (blk b T (cs.setIfInBounds o v))) := fun n a w ha hs => by
  refine ⟨w.setCell ⟨b, o, none⟩ v, .inr ⟨?_, rfl⟩, hs.setAt hi o v, Keep.setCell w _ v⟩
  have hw : w.heap[b]? = some (.cells cs T (0, 0)) := mem_heap hs (List.mem_of_getElem? hi) (blk_same b T cs)
  have hcell : w.cell? ⟨b, o, none⟩ = some cs[o] := by rw [cell_of_row w b o cs T _ hw]; exact Array.getElem?_eq_getElem ho
  have hf := frozen_of_row w b o cs T hw
  have hcells : v.cells = #[v] := by cases v <;> first | rfl | cases hv
  have hst : (store (Addr.add ⟨b, o, none⟩ 0) v).run P w = .ok () (w.setCell ⟨b, o, none⟩ v) := by
    rw [Addr.add_none, run_store P w _ v _ hv, Nat.add_zero, hcell]; simp [hf]
  simp [execOp, ha.eval hx, ha.eval hy, Instr.storeAt, Instr.sureAddr, storeVar, h1.size, hcells, storeCells, hst]
/-- cells over cells -/
def splice (cs : Array Value) (o : Nat) (vs : Array Value) : Array Value := (cs.toList.take o ++ vs.toList ++ cs.toList.drop (o + vs.size)).toArray
theorem Keep.setRow (w : World) (b : Nat) (cs : Array Value) : Keep w (w.setRow b cs) := by
  exact ⟨rfl, rfl, rfl, by simp [World.setRow]⟩
theorem Sat.rowAt {w : World} (hs : Sat w L) {i b : Nat} {T : TypeId} {cs : Array Value} (hi : L[i]? = some (blk b T cs)) (vs : Array Value) : Sat (w.setRow b vs) (L.set i (blk b T vs)) := by
  have hw : w.heap[b]? = some (.cells cs T (0, 0)) := mem_heap hs (List.mem_of_getElem? hi) (blk_same b T cs)
  have h1 := hs.perm (perm_get hi)
  have h2 : Sat (w.setRow b vs) (obj b (.cells vs T (0, 0)) :: L.eraseIdx i) := Sat.setObj (o := .cells cs T (0, 0)) h1 (setRow_heap w b cs vs T _ hw) (fun x hx => setRow_other w b x vs hx)
  exact Sat.perm h2 (perm_set _ (List.getElem?_eq_some_iff.1 hi).1).symm
theorem EF.storeA {ty : TypeId} {k : Nat} [h1 : Agg P ty k] {x y : Operand} {b o i : Nat} {T : TypeId} {cs vs : Array Value} (hx : rev ρ x = some (.pointer (some ⟨b, o, none⟩))) (hy : rev ρ y = some (.agg vs))
    (hi : L[i]? = some (blk b T cs)) (hk : vs.size = k) (ho : o + k ≤ cs.size) (hv : vs.all (·.oneCell') = true) : EF P ρ L ⟨d, .store ty x y, t, p, af, g⟩ undef (L.set i (blk b T (splice cs o vs))) := fun n a w ha hs => by
  refine ⟨w.setRow b (splice cs o vs), .inr ⟨?_, rfl⟩, hs.rowAt hi _, Keep.setRow w _ _⟩
  have hw : w.heap[b]? = some (.cells cs T (0, 0)) := mem_heap hs (List.mem_of_getElem? hi) (blk_same b T cs)
  have hst := run_storeCells_at (P := P) b o T vs.toList 0 cs w hw (by simp; omega) (fun v hv' => (Array.all_eq_true_iff_forall_mem.1 hv) v (by simpa using hv'))
  simp only [Nat.add_zero, Array.length_toList] at hst
  simp [execOp, ha.eval hx, ha.eval hy, Instr.storeAt, Instr.sureAddr, storeVar, h1.size, Value.cells, hk, hst, splice]
end
end Go.SL
