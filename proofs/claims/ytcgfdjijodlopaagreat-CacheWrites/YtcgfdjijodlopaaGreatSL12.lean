/- A part of proofs about the given program. No condition. -/
import Derived.Test.YtcgfdjijodlopaaGreatSL11
import Derived.Laws.StructEq
import Derived.ChangeKeysEq
set_option linter.all false
/- Equality of structs and arrays, cell by cell. -/
namespace Go.SL
open Go.RowKit
variable {P : Program}

/-- a cell that is a number, or a truth value -/
def CellOk : Bool → Value → Prop
  | true, v => ∃ i, v = .int .i64 i
  | false, v => ∃ b, v = .bool b
def Shp : List Bool → List Value → Prop
  | [], l => l = []
  | k :: s, l => ∃ v u, l = v :: u ∧ CellOk k v ∧ Shp s u
theorem Shp.len : ∀ {s : List Bool} {l : List Value}, Shp s l → l.length = s.length
  | [], _, h => by subst h; rfl
  | _ :: s, _, ⟨v, u, h1, _, h3⟩ => by subst h1; simp [h3.len]
theorem Shp.split : ∀ {s1 s2 : List Bool} {l : List Value}, Shp (s1 ++ s2) l → ∃ l1 l2, l = l1 ++ l2 ∧ Shp s1 l1 ∧ Shp s2 l2
  | [], s2, l, h => ⟨[], l, rfl, rfl, h⟩
  | k :: s1, s2, l, ⟨v, u, h1, h2, h3⟩ => by
    obtain ⟨l1, l2, h4, h5, h6⟩ := Shp.split h3
    exact ⟨v :: l1, l2, by rw [h1, h4]; rfl, ⟨v, l1, rfl, h2, h5⟩, h6⟩
def veq : Value → Value → Bool
  | .int _ a, .int _ b => decide (a = b)
  | .bool a, .bool b => a == b
  | _, _ => false
/-- cells that are the same -/
def ceq : List Value → List Value → Bool
  | [], [] => true
  | x :: xs, y :: ys => veq x y && ceq xs ys
  | _, _ => false
theorem veq_iff {k : Bool} {x y : Value} (hx : CellOk k x) (hy : CellOk k y) : veq x y = true ↔ x = y := by
  cases k
  · obtain ⟨a, rfl⟩ := hx; obtain ⟨b, rfl⟩ := hy; simp [veq]
  · obtain ⟨a, rfl⟩ := hx; obtain ⟨b, rfl⟩ := hy; simp [veq]
theorem ceq_iff : ∀ {s : List Bool} {xs ys : List Value}, Shp s xs → Shp s ys → (ceq xs ys = true ↔ xs = ys)
  | [], _, _, h1, h2 => by simp only [Shp] at h1 h2; subst h1; subst h2; simp [ceq]
  | k :: s, _, _, ⟨x, xs, e1, h1, h2⟩, ⟨y, ys, e2, h3, h4⟩ => by
    subst e1; subst e2
    simp only [ceq, Bool.and_eq_true, veq_iff h1 h3, ceq_iff h2 h4, List.cons.injEq]
theorem ceq_app : ∀ {x y xs ys : List Value}, x.length = y.length → ceq (x ++ xs) (y ++ ys) = (ceq x y && ceq xs ys)
  | [], [], _, _, _ => by simp [ceq]
  | a :: x, b :: y, xs, ys, h => by
    have := ceq_app (x := x) (y := y) (xs := xs) (ys := ys) (by simpa using h)
    simp [ceq, this, Bool.and_assoc]
class Eq1 (P : Program) (t : Nat) (k : outParam Bool) : Prop where
  und : (k = true ∧ ∃ q, P.underlying t = some (.int q)) ∨ (k = false ∧ P.underlying t = some .bool)
theorem Eq1.run {t : Nat} {k : Bool} (h : Eq1 P t k) {x y : Value} (hx : CellOk k x) (hy : CellOk k y) (d : Nat) (w : World) : (Op.equalIn (d + 1) t x y).run P w = .ok (veq x y) w := by
  rcases h.und with ⟨rfl, q, hu⟩ | ⟨rfl, hu⟩
  · obtain ⟨i, rfl⟩ := hx
    obtain ⟨j, rfl⟩ := hy
    rw [run_equalIn_int w d t _ _ _ _ hu]; rfl
  · obtain ⟨i, rfl⟩ := hx
    obtain ⟨j, rfl⟩ := hy
    rw [run_equalIn_bool' w d t _ _ hu]; rfl
class EqA (P : Program) (t : Nat) (dp : outParam Nat) (sh : outParam (List Bool)) : Prop where
  run : ∀ d w xs ys, dp ≤ d → Shp sh xs → Shp sh ys → (Op.equalIn d t (.agg xs.toArray) (.agg ys.toArray)).run P w = .ok (ceq xs ys) w
inductive FEq (P : Program) (dp : Nat) : List Field → Nat → List Bool → Prop
  | nil {o : Nat} : FEq P dp [] o []
  | one {f : Field} {fs : List Field} {o : Nat} {k : Bool} {s : List Bool} (hn : f.name ≠ "_") (ho : f.offset = o) (h1 : One P f.type) (he : Eq1 P f.type k) (r : FEq P dp fs (o + 1) s) : FEq P dp (f :: fs) o (k :: s)
  | agg {f : Field} {fs : List Field} {o n d1 : Nat} {s1 s : List Bool} (hn : f.name ≠ "_") (ho : f.offset = o) (h1 : Agg P f.type n) (he : EqA P f.type d1 s1) (hd : d1 ≤ dp) (hl : s1.length = n) (r : FEq P dp fs (o + n) s) : FEq P dp (f :: fs) o (s1 ++ s)
theorem part1 {t : Nat} [h : One P t] {px xs : List Value} {x : Value} (w : World) : (part t (px ++ x :: xs).toArray px.length).run P w = .ok x w := by
  simp [part, h.agg]
theorem partA {t n : Nat} [h : Agg P t n] {px xs ys : List Value} (hn : xs.length = n) (w : World) : (part t (px ++ (xs ++ ys)).toArray px.length).run P w = .ok (.agg xs.toArray) w := by
  subst hn
  simp only [part, Sem.run_bind, h.agg, Result.andThen_ok, if_true, h.size, Sem.run_pure]
  congr 2
  simp
theorem FEq.run {dp : Nat} : ∀ {fs : List Field} {o : Nat} {s : List Bool}, FEq P dp fs o s → ∀ d, dp + 1 ≤ d → ∀ (px py xs ys : List Value) (w : World), px.length = o → py.length = o → Shp s xs → Shp s ys →
    (Op.eqFields d (px ++ xs).toArray (py ++ ys).toArray fs).run P w = .ok (ceq xs ys) w := by
  intro fs o s h
  induction h with
  | nil => intro d _ px py xs ys w _ _ h1 h2; simp only [Shp] at h1 h2; subst h1; subst h2; simp [Op.eqFields, ceq]
  | @one f fs o k s hn ho h1 he r ih =>
    intro d hd px py xs ys w hp hq hx hy
    obtain ⟨x, xs, rfl, hx1, hx2⟩ := hx
    obtain ⟨y, ys, rfl, hy1, hy2⟩ := hy
    obtain ⟨d, rfl⟩ : ∃ e, d = e + 1 := ⟨d - 1, by omega⟩
    have e1 := part1 (P := P) (t := f.type) (px := px) (x := x) (xs := xs) w
    have e2 := part1 (P := P) (t := f.type) (px := py) (x := y) (xs := ys) w
    rw [hp, ← ho] at e1
    rw [hq, ← ho] at e2
    simp only [Op.eqFields, ne_eq, hn, not_false_eq_true, if_true, Sem.run_bind, e1, e2, Result.andThen_ok, he.run hx1 hy1 d w]
    have := ih (d + 1) hd (px ++ [x]) (py ++ [y]) xs ys w (by simp [hp]) (by simp [hq]) hx2 hy2
    simp only [List.append_assoc, List.singleton_append] at this
    cases hv : veq x y <;> simp [ceq, hv, this]
  | @agg f fs o n d1 s1 s hn ho h1 he hd1 hl r ih =>
    intro d hd px py xs ys w hp hq hx hy
    obtain ⟨x, xs, rfl, hx1, hx2⟩ := hx.split
    obtain ⟨y, ys, rfl, hy1, hy2⟩ := hy.split
    have lx := hx1.len
    have ly := hy1.len
    have e1 := partA (P := P) (t := f.type) (px := px) (xs := x) (ys := xs) (by omega) w
    have e2 := partA (P := P) (t := f.type) (px := py) (xs := y) (ys := ys) (by omega) w
    rw [hp, ← ho] at e1
    rw [hq, ← ho] at e2
    simp only [Op.eqFields, ne_eq, hn, not_false_eq_true, if_true, Sem.run_bind, e1, e2, Result.andThen_ok, he.run d w x y (by omega) hx1 hy1]
    have := ih d hd (px ++ x) (py ++ y) xs ys w (by simp [hp]; omega) (by simp [hq]; omega) hx2 hy2
    simp only [List.append_assoc] at this
    rw [ceq_app (by omega)]
    cases hv : ceq x y <;> simp [this]
theorem EqA.struct {t dp : Nat} {fs : Array Field} {s : List Bool} (hu : P.underlying t = some (.struct fs)) (hs : P.stoodInHeld t = false) (h : FEq P dp fs.toList 0 s) : EqA P t (dp + 2) s := ⟨fun d w xs ys hd hx hy => by
  obtain ⟨d, rfl⟩ : ∃ e, d = e + 1 := ⟨d - 1, by omega⟩
  have hf : P.fieldsOf t = fs := by simp [Program.fieldsOf, hu]
  rw [run_equalIn_struct w d t _ _ (by rw [hf]; exact hu) hs, hf]
  exact h.run d (by omega) [] [] xs ys w rfl rfl hx hy⟩
theorem eqItems_run {e c : Nat} {k : Bool} [h1 : One P e] [he : Eq1 P e k] (w : World) (d : Nat) : ∀ (n i : Nat) (px py xs ys : List Value), px.length = i → py.length = i → Shp (List.replicate n k) xs → Shp (List.replicate n k) ys →
    (Op.eqItems (d + 1) e 1 (px ++ xs).toArray (py ++ ys).toArray (List.range' i n)).run P w = .ok (ceq xs ys) w
  | 0, i, px, py, xs, ys, _, _, h1, h2 => by simp only [List.replicate_zero, Shp] at h1 h2; subst h1; subst h2; simp [Op.eqItems, ceq]
  | n + 1, i, px, py, xs, ys, hp, hq, hx, hy => by
    obtain ⟨x, xs, rfl, hx1, hx2⟩ := hx
    obtain ⟨y, ys, rfl, hy1, hy2⟩ := hy
    have e1 := part1 (P := P) (t := e) (px := px) (x := x) (xs := xs) w
    have e2 := part1 (P := P) (t := e) (px := py) (x := y) (xs := ys) w
    rw [hp] at e1
    rw [hq] at e2
    simp only [List.range'_succ, Op.eqItems, Nat.mul_one, Sem.run_bind, e1, e2, Result.andThen_ok, he.run hx1 hy1 d w]
    have := eqItems_run (e := e) (c := c) w d n (i + 1) (px ++ [x]) (py ++ [y]) xs ys (by simp [hp]) (by simp [hq]) hx2 hy2
    simp only [List.append_assoc, List.singleton_append] at this
    cases hv : veq x y <;> simp [ceq, hv, this]
theorem EqA.array {t e n : Nat} {k : Bool} {i : TypeInfo} (hu : P.underlying t = some (.array n e)) (hi : P.info? e = some i) (hc : P.cellsOf e = 1) [h1 : One P e] [he : Eq1 P e k] : EqA P t 2 (List.replicate n k) := ⟨fun d w xs ys hd hx hy => by
  obtain ⟨d, rfl⟩ : ∃ e, d = e + 2 := ⟨d - 2, by omega⟩
  rw [show d + 2 = (d + 1) + 1 from rfl, run_equalIn_array w (d + 1) _ _ hu hi, hc, List.range_eq_range']
  exact eqItems_run (e := e) (c := 1) w d n 0 [] [] xs ys rfl rfl hx hy⟩
section
variable {ρ : Regs} {L : List Frag} {d : Option Tmp} {t : TypeId} {p : String} {af : Array Edge} {g : Option (Nat × Bool)}
theorem LD.eqS {x y : Operand} {tx ty dp : Nat} {s : List Bool} {xs ys : List Value} [h : EqA P tx dp s] (hx : rev ρ x = some (.agg xs.toArray)) (hy : rev ρ y = some (.agg ys.toArray)) (hg : P.eqGuardType P.depth tx = false) (hd : Nat.ble dp 10000 = true) (h1 : Shp s xs) (h2 : Shp s ys) :
    LD P ρ L ⟨d, .binOp .eql tx x y ty, t, p, af, g⟩ (.bool (ceq xs ys)) := LD.bin hx hy (fun _ _ w => run_eqGuard_agg w _ _ _ _ _ _ hg) fun w => by
  rw [run_eql_struct, h.run 10000 w xs ys (Nat.le_of_ble_eq_true hd) h1 h2]; rfl
theorem LD.neqS {x y : Operand} {tx ty dp : Nat} {s : List Bool} {xs ys : List Value} [h : EqA P tx dp s] (hx : rev ρ x = some (.agg xs.toArray)) (hy : rev ρ y = some (.agg ys.toArray)) (hg : P.eqGuardType P.depth tx = false) (hd : Nat.ble dp 10000 = true) (h1 : Shp s xs) (h2 : Shp s ys) :
    LD P ρ L ⟨d, .binOp .neq tx x y ty, t, p, af, g⟩ (.bool (!ceq xs ys)) := LD.bin hx hy (fun _ _ w => run_eqGuard_agg w _ _ _ _ _ _ hg) fun w => by
  rw [run_neq_struct, h.run 10000 w xs ys (Nat.le_of_ble_eq_true hd) h1 h2]; rfl
/-! ### interfaces -/
class NotIface (P : Program) (t : Nat) : Prop where
  run : ∀ v w, (Instr.makeInterface t v).run P w = .ok (.iface t v) w
theorem LD.mkI {x : Operand} {T : Nat} {v : Value} [h : NotIface P T] (hx : rev ρ x = some v) : LD P ρ L ⟨d, .makeInterface T x, t, p, af, g⟩ (.iface T v) := fun n a w hr _ => by simp [execOp, hr.eval hx, h.run]
/-- a method of a type, by value -/
class MethAt (P : Program) (t : Nat) (name : String) (f : outParam Nat) : Prop where
  run : ∀ v w, (do method ((← program).types.size + Made.depth) t v name : Sem (FuncId × Value)).run P w = .ok (f, v) w
end
end Go.SL
