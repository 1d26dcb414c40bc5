/- A part of proofs about the given program. No condition. -/
import Derived.Test.YtcgfdjijodlopaaGreatSL12
set_option linter.all false
/- Maps from numbers. -/
namespace Go.SL
open Go.RowKit
variable {P : Program}

/-- all keys are numbers -/
def IntKeys (es : List MapEntry) : Prop := ∀ e ∈ es, ∃ i, e.key = .int .i64 i
def keyIs (k : Int) (e : MapEntry) : Bool := match e.key with | .int _ i => decide (i = k) | _ => false
def mfind (es : List MapEntry) (k : Int) : Option (Nat × Value) := (es.findIdx? (keyIs k)).bind fun i => (es[i]?).map fun e => (i, e.val)
/-- what a map holds -/
def mapv (es : List MapEntry) (k : Int) : Option Value := (es.find? (keyIs k)).map (·.val)
theorem mapv_nil (k : Int) : mapv [] k = none := rfl
theorem IntKeys.nil : IntKeys [] := fun _ h => (by cases h)
class MapT (P : Program) (t : Nat) (e : outParam Nat) : Prop where
  key : ∃ k q, P.underlying t = some (.map k e) ∧ P.underlying k = some (.int q)

theorem findNow_int {q : IntKind} (k : Int) : ∀ (es : List MapEntry) (j : Nat), IntKeys es → Instr.findNow (.int q) (.int .i64 k) es j = some (match es.findIdx? (keyIs k) with | some i => (es[i]?).map fun e => (j + i, e.val) | none => none)
  | [], j, _ => by simp [Instr.findNow]
  | e :: es, j, h => by
    obtain ⟨i, hi⟩ := h e (List.mem_cons_self ..)
    have ih := findNow_int (q := q) k es (j + 1) (fun x hx => h x (List.mem_cons_of_mem _ hx))
    have hb : Instr.sameNow (.int q) (.int .i64 k) e.key = some (decide (k = i)) := by rw [hi]; simp [Instr.sameNow]; rfl
    unfold Instr.findNow
    rw [hb]
    by_cases hk : k = i
    · subst hk
      simp [List.findIdx?_cons, keyIs, hi]
    · have hk' : ¬ i = k := fun e => hk e.symm
      have hf : keyIs k e = false := by simp [keyIs, hi, hk']
      simp only [hk, decide_false]
      rw [ih, List.findIdx?_cons, hf]
      cases hq : es.findIdx? (keyIs k) with
      | none => simp
      | some m =>
        have e1 : j + 1 + m = j + (m + 1) := by omega
        simp [e1]
theorem mapv_find {es : List MapEntry} {k : Int} : mapv es k = (match es.findIdx? (keyIs k) with | some i => (es[i]?).map (·.val) | none => none) := by
  unfold mapv
  cases hf : es.findIdx? (keyIs k) with
  | none => rw [List.findIdx?_eq_none_iff] at hf; rw [List.find?_eq_none.2 (by simpa using hf)]; rfl
  | some i =>
    rw [List.findIdx?_eq_some_iff_getElem] at hf
    obtain ⟨h1, h2, h3⟩ := hf
    have : es.find? (keyIs k) = some es[i] := by
      rw [List.find?_eq_some_iff_getElem]
      exact ⟨h2, i, h1, rfl, fun j hj => by simpa using h3 j hj⟩
    rw [this]; simp [h1]
theorem run_findKey {w : World} {kt : Nat} {q : IntKind} (hk : P.underlying kt = some (.int q)) {es : List MapEntry} (h : IntKeys es) (k : Int) : (Instr.findKey kt (.int .i64 k) es).run P w = .ok (match es.findIdx? (keyIs k) with | some i => (es[i]?).map fun e => (i, e.val) | none => none) w := by
  simp only [Instr.findKey, Sem.run_bind, run_underlying hk, Result.andThen_ok, findNow_int k es 0 h, Nat.zero_add]
  rfl
theorem run_checkKey {w : World} {kt : Nat} {q : IntKind} (hk : P.underlying kt = some (.int q)) (e : Bool) (k : Int) : (Instr.checkKey e 10000 kt (.int .i64 k)).run P w = .ok () w := by
  rw [Instr.checkKey, Sem.run_bind, run_underlying hk]; rfl
theorem run_getMap {w : World} {r : Nat} {es : Array MapEntry} {c : Nat} (h : w.heap[r]? = some (.map es c)) : (getObj r).run P w = .ok (.map es c) w := by
  simp [getObj, Sem.run, h]
theorem zero_of {e : Nat} {z : Array Value} [hz : ZeroV P e z] (w : World) : ∃ v, (zeroValue e).run P w = .ok v w ∧ v.cells = z := hz.run w
class ZeroOf (P : Program) (t : Nat) (v : outParam Value) : Prop where
  run : ∀ w, (zeroValue t).run P w = .ok v w
section
variable {ρ : Regs} {L : List Frag} {d : Option Tmp} {t : TypeId} {p : String} {af : Array Edge} {g : Option (Nat × Bool)}
def Mp (b : Nat) (es : List MapEntry) (c : Nat) : Frag := obj b (.map es.toArray c)
theorem LD.lookup {T e : Nat} [hT : MapT P T e] {z : Value} [hz : ZeroOf P e z] {x y : Operand} {b c : Nat} {es : List MapEntry} {k : Int} {r : Frag} (hx : rev ρ x = some (.map (some b))) (hy : rev ρ y = some (.int .i64 k)) (hr : r ∈ L) (hb : r b = some (.map es.toArray c)) (hi : IntKeys es) (ok : Bool) :
    LD P ρ L ⟨d, .lookup T x y ok, t, p, af, g⟩ (bif ok then .tuple #[(mapv es k).getD z, .bool (mapv es k).isSome] else (mapv es k).getD z) := fun n a w ha hs => by
  obtain ⟨kt, q, hm, hk⟩ := hT.key
  have hw := mem_heap hs hr hb
  simp only [execOp, ha.eval hx, ha.eval hy, Instr.lookup, Sem.run_bind, run_underlying hm, Result.andThen_ok, run_getMap hw, run_checkKey hk, run_findKey hk hi, Sem.run_pure]
  rw [mapv_find]
  cases hf : es.findIdx? (keyIs k) with
  | none => simp [hz.run]; try (cases ok <;> rfl)
  | some i =>
    have h1 := (List.findIdx?_eq_some_iff_getElem.1 hf).1
    simp [h1]; try (cases ok <;> rfl)
theorem LD.lookupNil {T e : Nat} [hT : MapT P T e] {z : Value} [hz : ZeroOf P e z] {x y : Operand} {k : Int} (hx : rev ρ x = some (.map none)) (hy : rev ρ y = some (.int .i64 k)) (ok : Bool) :
    LD P ρ L ⟨d, .lookup T x y ok, t, p, af, g⟩ (bif ok then .tuple #[z, .bool false] else z) := fun n a w ha hs => by
  obtain ⟨kt, q, hm, hk⟩ := hT.key
  simp only [execOp, ha.eval hx, ha.eval hy, Instr.lookup, Sem.run_bind, run_underlying hm, Result.andThen_ok, run_checkKey hk, Sem.run_pure]
  have := run_findKey (P := P) (w := w) hk IntKeys.nil k
  simp only [this, Result.andThen_ok]
  simp [hz.run]; try (cases ok <;> rfl)
theorem EX.mkMap {T : Nat} : EX P ρ L ⟨d, .makeMap T none, t, p, af, g⟩ (fun v L' => ∃ b, v = .map (some b) ∧ L' = Mp b [] 0 :: L) := fun n a w ha hs => by
  refine ⟨.map (some w.heap.size), _, w.alloc (.map #[] 0), ?_, ⟨_, rfl, rfl⟩, hs.alloc _, Keep.alloc w _⟩
  simp [execOp, Instr.makeMap, newObj, Sem.run]
end
/-- a map behind an update -/
def mupd (es : List MapEntry) (c : Nat) (k : Int) (v : Value) : List MapEntry × Nat :=
  match es.findIdx? (keyIs k) with
  | some i => (es.modify i (fun e => { e with key := .int .i64 k, val := v }), c)
  | none => (es ++ [{ key := .int .i64 k, val := v, born := c }], c + 1)
theorem mupd_keys {es : List MapEntry} (h : IntKeys es) (c : Nat) (k : Int) (v : Value) : IntKeys (mupd es c k v).1 := by
  unfold mupd
  cases hf : es.findIdx? (keyIs k) with
  | none =>
    intro e he
    rcases List.mem_append.1 he with he | he
    · exact h e he
    · rw [List.mem_singleton] at he; subst he; exact ⟨k, rfl⟩
  | some i =>
    intro e he
    simp only at he
    obtain ⟨j, hj⟩ := List.mem_iff_getElem?.1 he
    rw [List.getElem?_modify] at hj
    split at hj
    · cases hq : es[j]? with
      | none => simp [hq] at hj
      | some x => simp [hq] at hj; subst hj; exact ⟨k, rfl⟩
    · simp at hj; exact h e (List.mem_of_getElem? hj)
theorem mupd_get {es : List MapEntry} (c : Nat) (k : Int) (v : Value) (j : Int) : mapv (mupd es c k v).1 j = if j = k then some v else mapv es j := by
  unfold mupd
  cases hf : es.findIdx? (keyIs k) with
  | none =>
    simp only [mapv, List.find?_append]
    by_cases hjk : j = k
    · subst hjk
      rw [List.findIdx?_eq_none_iff] at hf
      rw [List.find?_eq_none.2 (by simpa using hf)]
      simp [keyIs]
    · have : keyIs j { key := .int .i64 k, val := v, born := c } = false := by simp [keyIs]; omega
      simp [hjk, List.find?_cons, this]
  | some i =>
    rw [List.findIdx?_eq_some_iff_getElem] at hf
    obtain ⟨h1, h2, h3⟩ := hf
    have hkey : ∀ x, keyIs x es[i] = decide (k = x) := by
      intro x
      unfold keyIs at h2 ⊢
      split at h2
      · rename_i q m hm; simp at h2; subst h2; simp [hm]
      · cases h2
    have key : ∀ (l : List MapEntry) (i : Nat) (h1 : i < l.length), keyIs k l[i] = true → (∀ m (hm : m < i), keyIs k (l[m]'(Nat.lt_trans hm h1)) = false) →
        (l.modify i (fun e => { e with key := .int .i64 k, val := v })).find? (keyIs j) = if j = k then some { l[i] with key := .int .i64 k, val := v } else l.find? (keyIs j) := by
      intro l
      induction l with
      | nil => intro i h1; simp at h1
      | cons x l ih =>
        intro i h1 h2 h3
        cases i with
        | zero =>
          simp only [List.modify_zero_cons, List.find?_cons, List.getElem_cons_zero]
          by_cases hjk : j = k
          · subst hjk; simp [keyIs]
          · have e1 : keyIs j { x with key := .int .i64 k, val := v } = false := by simp [keyIs]; omega
            have e2 : keyIs j x = false := by
              simp only [List.getElem_cons_zero] at h2
              unfold keyIs at h2 ⊢
              split at h2
              · rename_i q m hm; simp at h2; subst h2; simp [hm]; omega
              · cases h2
            simp [e1, e2, hjk]
        | succ i =>
          have := ih i (by simpa using h1) (by simpa using h2) (fun m hm => by simpa using h3 (m + 1) (by omega))
          simp only [List.modify_succ_cons, List.find?_cons, List.getElem_cons_succ]
          have hx : keyIs k x = false := by simpa using h3 0 (by omega)
          by_cases hjk : j = k
          · subst hjk; simp only [hx]; rw [this]; simp
          · rw [this]; simp [hjk]
    simp only [mapv]
    rw [key es i h1 h2 (fun m hm => by simpa using h3 m hm)]
    split <;> rfl
theorem run_setMap {w : World} {r : Nat} {es : Array MapEntry} {c : Nat} (h : w.heap[r]? = some (.map es c)) (o : Obj) : (setObj r o).run P w = .ok () { w with heap := w.heap.setIfInBounds r o } := by
  simp [setObj, Sem.run, h]
theorem Sat.mapAt {w : World} {L : List Frag} (hs : Sat w L) {i b : Nat} {o o' : Obj} (hi : L[i]? = some (obj b o)) : Sat { w with heap := w.heap.setIfInBounds b o' } (L.set i (obj b o')) := by
  have hw : w.heap[b]? = some o := mem_heap hs (List.mem_of_getElem? hi) (obj_same b o)
  have hlt : b < w.heap.size := (Array.getElem?_eq_some_iff.1 hw).1
  have h1 := hs.perm (perm_get hi)
  have h2 : Sat { w with heap := w.heap.setIfInBounds b o' } (obj b o' :: L.eraseIdx i) := Sat.setObj h1 (by simp [hlt]) (fun x hx => by simp [Array.getElem?_setIfInBounds, Ne.symm hx])
  exact Sat.perm h2 (perm_set _ (List.getElem?_eq_some_iff.1 hi).1).symm
section
variable {ρ : Regs} {L : List Frag} {d : Option Tmp} {t : TypeId} {p : String} {af : Array Edge} {g : Option (Nat × Bool)}
theorem EF.mapUp {T e : Nat} [hT : MapT P T e] {x y z : Operand} {b c i : Nat} {es : List MapEntry} {k : Int} {v : Value} (hx : rev ρ x = some (.map (some b))) (hy : rev ρ y = some (.int .i64 k)) (hz : rev ρ z = some v) (hi : L[i]? = some (Mp b es c)) (hk : IntKeys es) :
    EF P ρ L ⟨d, .mapUpdate T x y z, t, p, af, g⟩ undef (L.set i (Mp b (mupd es c k v).1 (mupd es c k v).2)) := fun n a w ha hs => by
  obtain ⟨kt, q, hm, hkt⟩ := hT.key
  have hw : w.heap[b]? = some (.map es.toArray c) := mem_heap hs (List.mem_of_getElem? hi) (obj_same b _)
  refine ⟨{ w with heap := w.heap.setIfInBounds b (.map (mupd es c k v).1.toArray (mupd es c k v).2) }, .inr ⟨?_, rfl⟩, hs.mapAt hi, ⟨rfl, rfl, rfl, by simp⟩⟩
  simp only [execOp, ha.eval hx, ha.eval hy, ha.eval hz, Instr.mapUpdate, Sem.run_bind, run_underlying hm, Result.andThen_ok, run_getMap hw, run_checkKey hkt, run_findKey hkt hk]
  cases hf : es.findIdx? (keyIs k) with
  | none =>
    simp only [run_setMap hw, Result.andThen_ok, Sem.run_pure, mupd, hf]
    simp
  | some j =>
    have h1 := (List.findIdx?_eq_some_iff_getElem.1 hf).1
    have h2 := (List.findIdx?_eq_some_iff_getElem.1 hf).2.1
    have hkey : es[j].key = .int .i64 k := by
      obtain ⟨m, hm⟩ := hk es[j] (List.getElem_mem h1)
      unfold keyIs at h2
      rw [hm] at h2
      simp at h2; subst h2; exact hm
    have hst : (Instr.keyThatStays (.int .i64 k) (.int .i64 k)).run P w = .ok (.int .i64 k) w := by
      have : Instr.sameBits 10000 (.int .i64 k) (.int .i64 k) = true := by unfold Instr.sameBits; simp
      simp [Instr.keyThatStays, this]
    have e1 : ((es[j]?).map fun e => (j, e.val)) = some (j, es[j].val) := by simp [h1]
    simp only [e1]
    have e2 : (((es.toArray[j]?).map (·.key)).getD (.int .i64 k)) = .int .i64 k := by simp [h1, hkey]
    simp only [e2, Sem.run_bind, hst, Result.andThen_ok, run_setMap hw, Sem.run_pure, mupd, hf]
    simp
end
end Go.SL
