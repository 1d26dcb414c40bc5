/- A part of proofs about the given program. No condition. -/
import Derived.Test.YtcgfdjijodlopaaGreatSL15
set_option linter.all false
/- Conversions of whole numbers. -/
namespace Go.SL
open Go.RowKit
section
variable {P : Program} {ρ : Regs} {L : List Frag} {d : Option Tmp} {t : TypeId} {p : String} {af : Array Edge} {g : Option (Nat × Bool)}
theorem LD.conv {x : Operand} {src dst : TypeId} {D : TypeDesc} {k k2 : IntKind} {n : Int} (h : rev ρ x = some (.int k2 n)) (hs : P.underlying src = some D) (hd : P.underlying dst = some (.int k)) : LD P ρ L ⟨d, .convert src dst x, t, p, af, g⟩ (.int k (k.wrap n)) := fun m a w hr _ => by
  simp [execOp, hr.eval h, convert, run_underlying hs, run_underlying hd, Conv.intToInt]
theorem LD.eqT {x y : Operand} {tx ty : TypeId} {a b : Int} (hx : rev ρ x = some (.int .i64 a)) (hy : rev ρ y = some (.int .i64 b)) (h : a = b) : LD P ρ L ⟨d, .binOp .eql tx x y ty, t, p, af, g⟩ (.bool true) := by
  have := LD.eql (P := P) (L := L) (d := d) (tx := tx) (ty := ty) (t := t) (p := p) (af := af) (g := g) hx hy
  rwa [decide_eq_true h] at this
theorem LD.neqF {x y : Operand} {tx ty : TypeId} {a b : Int} (hx : rev ρ x = some (.int .i64 a)) (hy : rev ρ y = some (.int .i64 b)) (h : a = b) : LD P ρ L ⟨d, .binOp .neq tx x y ty, t, p, af, g⟩ (.bool false) := by
  have := LD.neq (P := P) (L := L) (d := d) (tx := tx) (ty := ty) (t := t) (p := p) (af := af) (g := g) hx hy
  rwa [decide_eq_true h] at this
theorem LD.neqT {x y : Operand} {tx ty : TypeId} {a b : Int} (hx : rev ρ x = some (.int .i64 a)) (hy : rev ρ y = some (.int .i64 b)) (h : a ≠ b) : LD P ρ L ⟨d, .binOp .neq tx x y ty, t, p, af, g⟩ (.bool true) := by
  have := LD.neq (P := P) (L := L) (d := d) (tx := tx) (ty := ty) (t := t) (p := p) (af := af) (g := g) hx hy
  rwa [decide_eq_false h] at this
theorem LD.eqST {x y : Operand} {tx ty dp : Nat} {s : List Bool} {xs ys : List Value} [h : EqA P tx dp s] (hx : rev ρ x = some (.agg xs.toArray)) (hy : rev ρ y = some (.agg ys.toArray)) (hg : P.eqGuardType P.depth tx = false) (hd : Nat.ble dp 10000 = true) (h1 : Shp s xs) (he : xs = ys) :
    LD P ρ L ⟨d, .binOp .eql tx x y ty, t, p, af, g⟩ (.bool true) := by
  subst he
  have := LD.eqS (P := P) (L := L) (d := d) (ty := ty) (t := t) (p := p) (af := af) (g := g) hx hy hg hd h1 h1
  rwa [(ceq_iff h1 h1).2 rfl] at this
theorem LD.neqSF {x y : Operand} {tx ty dp : Nat} {s : List Bool} {xs ys : List Value} [h : EqA P tx dp s] (hx : rev ρ x = some (.agg xs.toArray)) (hy : rev ρ y = some (.agg ys.toArray)) (hg : P.eqGuardType P.depth tx = false) (hd : Nat.ble dp 10000 = true) (h1 : Shp s xs) (he : xs = ys) :
    LD P ρ L ⟨d, .binOp .neq tx x y ty, t, p, af, g⟩ (.bool false) := by
  subst he
  have := LD.neqS (P := P) (L := L) (d := d) (ty := ty) (t := t) (p := p) (af := af) (g := g) hx hy hg hd h1 h1
  rwa [(ceq_iff h1 h1).2 rfl] at this
end
theorem wrap32_id {n : Int} : IntKind.wrap .i64 (IntKind.wrap .i32 n) = n ↔ -2147483648 ≤ n ∧ n ≤ 2147483647 := by
  simp only [IntKind.wrap, IntKind.bits, IntKind.signed]
  simp
  omega
end Go.SL
