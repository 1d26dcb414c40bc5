/- A part of proofs about the given program. No condition. -/
import Derived.Test.YtcgfdjijodlopaaGreatSL5
import Derived.Calls
set_option linter.all false
/- Whole functions: in, and out. -/
namespace Go.SL
open Go.RowKit
variable {P : Program} {n : Nat}

def argRegs : Nat → List Value → Regs
  | _, [] => []
  | k, v :: l => (k, v) :: argRegs (k + 1) l
theorem argRegs_get : ∀ (l : List Value) (k i : Nat) (v : Value), rget (argRegs k l) i = some v → k ≤ i ∧ l[i - k]? = some v
  | [], _, _, _, h => by cases h
  | x :: l, k, i, v, h => by
    simp only [argRegs, rget_cons] at h
    split at h
    · rename_i e; subst e; injection h with h; subst h; simp
    · obtain ⟨h1, h2⟩ := argRegs_get l (k + 1) i v h
      refine ⟨by omega, ?_⟩
      have : i - k = (i - (k + 1)) + 1 := by omega
      rw [this]; simpa using h2
theorem Rep.args {args : List Value} (h : args.length ≤ n) : Rep n { tmps := args.toArray ++ Array.replicate (n - args.toArray.size) undef, defers := [] } (argRegs 0 args) := by
  refine ⟨by simp; omega, fun i v hi => ?_, rfl⟩
  obtain ⟨_, h2⟩ := argRegs_get args 0 i v hi
  have hlt : i < args.length := by
    have := (List.getElem?_eq_some_iff.1 h2).1; simpa using this
  rw [Array.getElem?_append_left (by simpa using hlt)]
  simpa using h2

/-- what a variable in memory holds -/
def LV (P : Program) (L : List Frag) (ty : TypeId) (A : Addr) (v : Value) : Prop := ∀ w, Sat w L → (loadVar ty A).run P w = .ok v w
theorem LV.one {L : List Frag} {ty : TypeId} [h1 : One P ty] {b o : Nat} {r : Frag} {cs : Array Value} {T : TypeId} {fr : Nat × Nat} {v : Value} (hr : r ∈ L) (hb : r b = some (.cells cs T fr)) (hc : cs[o]? = some v) : LV P L ty ⟨b, o, none⟩ v := fun w hs => by
  have hw := mem_heap hs hr hb
  simp only [loadVar, Sem.run_bind, h1.agg, Result.andThen_ok]
  have : w.cell? ⟨b, o, none⟩ = some v := by rw [cell_of_row w b o cs T fr hw, hc]
  simp [load, Sem.run, this]
theorem LV.agg {L : List Frag} {ty : TypeId} {k : Nat} [h1 : Agg P ty k] {b o : Nat} {r : Frag} {cs vs : Array Value} {T : TypeId} {fr : Nat × Nat} (hr : r ∈ L) (hb : r b = some (.cells cs T fr)) (hk : o + k ≤ cs.size) (hv : cs.extract o (o + k) = vs) :
    LV P L ty ⟨b, o, none⟩ (.agg vs) := fun _ hs => run_loadAgg (mem_heap hs hr hb) hk hv

def Res (P : Program) (ρ : Regs) (L : List Frag) : List ResultVar → List Value → Prop
  | [], vs => vs = []
  | .tmp t :: l, vs => ∃ v us, vs = v :: us ∧ rget ρ t = some v ∧ Res P ρ L l us
  | .cell a ty :: l, vs => ∃ v us A, vs = v :: us ∧ rget ρ a = some (.pointer (some A)) ∧ LV P L ty A v ∧ Res P ρ L l us
def pack : List Value → Value
  | [v] => v
  | vs => .tuple vs.toArray
theorem Res.run {a : Act} {ρ : Regs} {L : List Frag} {w : World} (hr : Rep n a ρ) (hs : Sat w L) : ∀ {l : List ResultVar} {vs : List Value}, Res P ρ L l vs →
    (l.mapM (m := Sem) fun | .tmp t => pure (a.tmps.getD t undef) | .cell x t => do loadVar t (← asAddr (a.tmps.getD x undef))).run P w = .ok vs w
  | [], vs, h => by subst h; simp
  | .tmp t :: l, vs, h => by
    obtain ⟨v, us, rfl, h1, h2⟩ := h
    have := hr.get t v h1
    have ih := Res.run hr hs h2
    rw [List.mapM_cons]
    simp only [Sem.run_bind, Sem.run_pure, Result.andThen_ok]
    rw [ih]
    simp [this]
  | .cell x ty :: l, vs, h => by
    obtain ⟨v, us, A, rfl, h1, h3, h2⟩ := h
    have := hr.get x _ h1
    have ih := Res.run hr hs h2
    have e : (asAddr (a.tmps.getD x undef) : Sem Addr) = pure A := by simp [Array.getD_eq_getD_getElem?, this, asAddr]
    rw [List.mapM_cons]
    simp only [e, Sem.run_bind, Sem.run_pure, Result.andThen_ok, h3 w hs]
    rw [ih]
    simp

/-- what lies so, lies so too -/
def Ent (L L' : List Frag) : Prop := ∀ w F, Sat w (L ++ F) → Sat w (L' ++ F)
theorem Ent.refl (L : List Frag) : Ent L L := fun _ _ h => h
theorem Ent.fold (l : List Frag) : Ent l [un l] := fun _ _ h => h.fold
theorem Ent.app {L L' M M' : List Frag} (h : Ent L L') (k : Ent M M') : Ent (L ++ M) (L' ++ M') := fun w F hs => by
  have h1 := h w (M ++ F) (by rwa [List.append_assoc] at hs)
  have h2 := k w (L' ++ F) (h1.perm (by rw [← List.append_assoc, ← List.append_assoc]; exact List.perm_append_comm.append_right F))
  exact h2.perm (by rw [← List.append_assoc]; exact List.perm_append_comm.append_right F)
/-- at the end of a body -/
def Out (P : Program) (rs : List ResultVar) (post : Value → List Frag → Prop) (F : List Frag) : Post := fun e ρ L =>
  match e with
  | .normal | .ret => ∃ vs X L0 L', Res P ρ L rs vs ∧ post (pack vs) L' ∧ L.Perm (X ++ (L0 ++ F)) ∧ Ent L0 L'
  | _ => False

theorem Fn.body {f : Nat} {fn : Func} {c : Code} {args : List Value} {pre : List Frag} {post : Value → List Frag → Prop} {rs : List ResultVar} (hf : P.funcs[f]? = some fn) (hb : fn.body = some c) (hn : fn.ntmps = n) (hrs : fn.results = rs.toArray) (ha : args.length ≤ n)
    (h : ∀ F, TC P n (Out P rs post F) c (argRegs 0 args) (pre ++ F)) : Fn P f args pre post := fun w F hs => by
  refine calls_of_wp hf hb (Code_mono (fun e a w' hl => ?_) (h F _ w (by rw [hn]; exact Rep.args ha) hs))
  obtain ⟨ρ, L, h1, h2, h3, h4⟩ := hl
  have key : ∀ vs X L0 L', Res P ρ L rs vs → post (pack vs) L' → L.Perm (X ++ (L0 ++ F)) → Ent L0 L' → a.defers = [] ∧ ∃ v, (results fn a.tmps).run P w' = .ok v w' ∧ (∃ v' L', Ending.returned v = .returned v' ∧ post v' L' ∧ Sat w' (L' ++ F) ∧ Keep w w') := by
    intro vs X L0 L' g1 g2 g3 g4
    refine ⟨h1.defers, pack vs, ?_, pack vs, L', rfl, g2, g4 w' F ((h2.perm g3).of_sublist (List.sublist_append_right X _)), h3⟩
    have := g1.run h1 h2
    unfold results
    rw [hrs, List.mapM_toArray]
    simp only [Sem.run_bind, Sem.run_map]
    erw [this]
    rcases vs with _ | ⟨v, _ | ⟨u, l⟩⟩ <;> simp [pack]
  cases e with
  | normal => obtain ⟨vs, X, L0, L', g1, g2, g3, g4⟩ := h4; exact key vs X L0 L' g1 g2 g3 g4
  | ret => obtain ⟨vs, X, L0, L', g1, g2, g3, g4⟩ := h4; exact key vs X L0 L' g1 g2 g3 g4
  | _ => exact h4.elim
end Go.SL
