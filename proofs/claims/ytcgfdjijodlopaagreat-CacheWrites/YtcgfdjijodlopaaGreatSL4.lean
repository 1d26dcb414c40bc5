/- A part of proofs about the given program. No condition. -/
import Derived.Test.YtcgfdjijodlopaaGreatSL3
import Derived.Test.YtcgfdjijodlopaaGreatSLF
import Derived.Deep.AppendSrc
import Derived.Laws.MakeOwn
set_option linter.all false
/- Slices, calls, whole functions. -/
namespace Go.SL
open Go.RowKit
variable {P : Program}
section
variable {ρ : Regs} {L : List Frag} {d : Option Tmp} {t : TypeId} {p : String} {af : Array Edge} {g : Option (Nat × Bool)}

/-! ### slices: registers alone -/
theorem LD.lenS {x : Operand} {ts : Array TypeId} {T e n c : Nat} {q : Option Addr} (h : rev ρ x = some (.slice q n c)) (ht : ts[0]? = some T) (hu : P.underlying T = some (.slice e)) :
    LD P ρ L ⟨d, .call ⟨.builtin .len, #[x], ts⟩, t, p, af, g⟩ (.int .i64 n) := fun m a w hr _ => by
  simp [execOp, resolve, invoke, builtin, Builtin.len_, hr.eval h, ht, run_underlying hu, goInt]
theorem LD.capS {x : Operand} {ts : Array TypeId} {T e n c : Nat} {q : Option Addr} (h : rev ρ x = some (.slice q n c)) (ht : ts[0]? = some T) (hu : P.underlying T = some (.slice e)) :
    LD P ρ L ⟨d, .call ⟨.builtin .cap, #[x], ts⟩, t, p, af, g⟩ (.int .i64 c) := fun m a w hr _ => by
  simp [execOp, resolve, invoke, builtin, Builtin.cap_, hr.eval h, ht, run_underlying hu, goInt]
theorem LD.indexAddr {T e k n c b o : Nat} [hs : SliceT P T e k] {x y : Operand} {q : Option Addr} {i : Int} {ik : IntKind} (hx : rev ρ x = some (.slice q n c)) (hy : rev ρ y = some (.int ik i)) (hq : q = some ⟨b, o, none⟩) (hi : 0 ≤ i ∧ i < n) :
    LD P ρ L ⟨d, .indexAddr T x y, t, p, af, g⟩ (.pointer (some ⟨b, o + i.toNat * k, none⟩)) := fun m a w hr _ => by
  subst hq
  simp [execOp, Instr.indexAt, hr.eval hx, hr.eval hy, asIntOf, run_underlying hs.und, hi, hs.size, Addr.add_none]
theorem LD.sliceS {T e k n c : Nat} [hs : SliceT P T e k] {x : Operand} {lo hi : Option Operand} {q : Option Addr} {l h : Int} (hx : rev ρ x = some (.slice q n c))
    (hl : match lo with | none => l = 0 | some y => rev ρ y = some (.int .i64 l)) (hh : match hi with | none => h = n | some y => rev ρ y = some (.int .i64 h)) (h1 : 0 ≤ l ∧ l ≤ h ∧ h ≤ c) (hn : hi = none → l ≤ n) :
    LD P ρ L ⟨d, .slice T x lo hi none, t, p, af, g⟩ (.slice (if (c : Int) = l then q else q.map (·.add (l.toNat * k))) (h.toNat - l.toNat) (c - l.toNat)) := fun m a w hr _ => by
  have key : ∀ (lv hv : Option Value), lv = lo.map a.eval → hv = hi.map a.eval → (Instr.sliceBounds true n c lv hv none).run P w = .ok (l.toNat, h.toNat, c) w := by
    rintro _ _ rfl rfl
    unfold Instr.sliceBounds
    cases hi with
    | none =>
      subst hh
      cases lo with
      | none => subst hl; simp
      | some y => simp [hr.eval hl, Instr.sliceBound, asIntOf, h1.1, hn rfl]
    | some z =>
      have hz : 0 ≤ h ∧ h ≤ c := ⟨by omega, h1.2.2⟩
      cases lo with
      | none => subst hl; simp [hr.eval hh, Instr.sliceBound, asIntOf, hz]
      | some y =>
        simp [hr.eval hl, hr.eval hh, Instr.sliceBound, asIntOf, hz, h1.1]
        intro hm; omega
  have hc : (c = l.toNat) ↔ ((c : Int) = l) := by omega
  have k2 := key _ _ rfl rfl
  simp only [execOp, Instr.sliceAt, Option.map_none, hr.eval hx, Sem.run_bind, run_underlying hs.und, Result.andThen_ok, Instr.slice, k2, hs.size, hc]
  rfl

/-! ### structs and arrays that are built -/
class StructT (P : Program) (t : Nat) (ps : outParam (Array (Nat × Nat))) : Prop where
  run : ∀ w, ∃ fs : Array Field, (underlying t).run P w = .ok (.struct fs) w ∧ (fs.mapM fun f => (do pure (f.offset, ← sizeOf f.type) : Sem (Nat × Nat))).run P w = .ok ps w
theorem LD.buildS {T : TypeId} {z cs : Array Value} {ps : Array (Nat × Nat)} [hz : ZeroV P T z] [hT : StructT P T ps] {parts : Array (Nat × Operand)} {vs : List (Nat × Value)}
    (hv : ∀ n a, Rep n a ρ → (parts.map fun (i, x) => (i, a.eval x)).toList = vs) (hf : Instr.fill (ps[·]?) z vs = some cs) : LD P ρ L ⟨d, .build T parts, t, p, af, g⟩ (.agg cs) := fun m a w hr _ => by
  obtain ⟨v, h1, h2⟩ := hz.run w
  obtain ⟨fs, h3, h4⟩ := hT.run w
  have hv' := hv m a hr
  simp only [execOp, Instr.build, Sem.run_bind, h1, Result.andThen_ok, h2, h3, h4, hv', hf]
  rfl
theorem LD.buildA {T len e k : Nat} {z cs : Array Value} [hz : ZeroV P T z] [hT : ArrT P T len e k] {parts : Array (Nat × Operand)} {vs : List (Nat × Value)}
    (hv : ∀ n a, Rep n a ρ → (parts.map fun (i, x) => (i, a.eval x)).toList = vs) (hf : Instr.fill (fun i => some (i * k, k)) z vs = some cs) : LD P ρ L ⟨d, .build T parts, t, p, af, g⟩ (.agg cs) := fun m a w hr _ => by
  obtain ⟨v, h1, h2⟩ := hz.run w
  have hv' := hv m a hr
  simp only [execOp, Instr.build, Sem.run_bind, h1, Result.andThen_ok, h2, run_underlying hT.und, hT.size, hv', hf]
  rfl
/-- the parts' values -/
def revs (ρ : Regs) : List (Nat × Operand) → Option (List (Nat × Value))
  | [] => some []
  | (i, x) :: l => match rev ρ x, revs ρ l with | some v, some vs => some ((i, v) :: vs) | _, _ => none
theorem revs_eval {n : Nat} {a : Act} (hr : Rep n a ρ) : ∀ {l : List (Nat × Operand)} {vs : List (Nat × Value)}, revs ρ l = some vs → l.map (fun q => (q.1, a.eval q.2)) = vs
  | [], vs, h => by simp [revs] at h; simp [h]
  | (i, x) :: l, vs, h => by
    unfold revs at h
    cases hx : rev ρ x with
    | none => simp [hx] at h
    | some v =>
      cases hl : revs ρ l with
      | none => simp [hx, hl] at h
      | some us =>
        simp [hx, hl] at h
        subst h
        simp [hr.eval hx, revs_eval hr hl]
theorem parts_of {parts : List (Nat × Operand)} {vs : List (Nat × Value)} (h : revs ρ parts = some vs) : ∀ n a, Rep n a ρ → (parts.toArray.map fun (i, x) => (i, a.eval x)).toList = vs := fun n a hr => by
  have := revs_eval hr h
  simpa using this
/-- cells, over and over -/
def rep : Nat → List Value → List Value
  | 0, _ => []
  | n + 1, z => z ++ rep n z
theorem NB.buildSlice {T e k len : Nat} {z cs : Array Value} [hT : SliceT P T e k] [hz : ZeroV P e z] {parts : Array (Nat × Operand)} {vs : List (Nat × Value)}
    (hv : ∀ n a, Rep n a ρ → (parts.map fun (i, x) => (i, a.eval x)).toList = vs) (hk : 0 < len * k ∧ len * k ≤ 16777216) (hf : Instr.fill (fun i => some (i * k, k)) ((Array.range (len * k)).map (z[· % z.size]!)) vs = some cs) :
    NB P ρ L ⟨d, .buildSlice T len parts, t, p, af, g⟩ e cs (fun b => .slice (some ⟨b, 0, none⟩) len len) := fun m a w hr _ => by
  obtain ⟨v, h1, h2⟩ := hz.run w
  have hv' := hv m a hr
  have g1 : ¬ (len * k > 2 ^ 24) := by omega
  have g2 : ¬ (len * k = 0) := by omega
  simp only [execOp, Instr.buildSlice, Sem.run_bind, run_underlying hT.und, Result.andThen_ok, hT.size, Sem.run_ite, if_neg g1, if_neg g2, h1, Sem.run_pure, h2, hv', hf, newRow]
  rfl

/-! ### calls -/
class FnAt (P : Program) (f : Nat) : Prop where
  run : ∀ (args : Array Value) (w : World), (callFunc f args).run P w = .ok (.enter f args) w
def revl (ρ : Regs) : List Operand → Option (List Value)
  | [] => some []
  | x :: l => match rev ρ x, revl ρ l with | some v, some vs => some (v :: vs) | _, _ => none
theorem revl_eval {n : Nat} {a : Act} (hr : Rep n a ρ) : ∀ {l : List Operand} {vs : List Value}, revl ρ l = some vs → l.map a.eval = vs
  | [], vs, h => by simp [revl] at h; simp [h]
  | x :: l, vs, h => by
    unfold revl at h
    cases hx : rev ρ x with
    | none => simp [hx] at h
    | some v =>
      cases hl : revl ρ l with
      | none => simp [hx, hl] at h
      | some us =>
        simp [hx, hl] at h
        subst h
        simp [hr.eval hx, revl_eval hr hl]
theorem CL.func {f : Nat} [hf : FnAt P f] {xs : List Operand} {vs : List Value} {ts : Array TypeId} (h : revl ρ xs = some vs) : CL P ρ ⟨d, .call ⟨.value (.func f), xs.toArray, ts⟩, t, p, af, g⟩ f vs := fun n a w hr => by
  have := revl_eval hr h
  simp [execOp, resolve, Act.eval, Deferred.ofValue, invoke, this, hf.run]
theorem CL.clos {f : Nat} [hf : FnAt P f] {c : Operand} {first cap : List Value} {xs : List Operand} {vs : List Value} {ts : Array TypeId} (hc : rev ρ c = some (.func (.func f) first.toArray cap.toArray)) (h : revl ρ xs = some vs) :
    CL P ρ ⟨d, .call ⟨.value c, xs.toArray, ts⟩, t, p, af, g⟩ f (first ++ vs ++ cap) := fun n a w hr => by
  have := revl_eval hr h
  simp [execOp, resolve, hr.eval hc, Deferred.ofValue, invoke, this, hf.run]
end
end Go.SL
