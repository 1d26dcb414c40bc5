/- A part of proofs about the given program. No condition. -/
import Derived.Test.YtcgfdjijodlopaaGreatSL8
set_option linter.all false
/- Rules whose outcomes are literal lists. -/
namespace Go.SL
open Go.RowKit
variable {P : Program} {n : Nat}

/-- the same list, spelled out -/
inductive Fo : List Value → List Value → Prop
  | nil : Fo [] []
  | cons {x : Value} {l l' : List Value} (h : Fo l l') : Fo (x :: l) (x :: l')
theorem Fo.eq {l l' : List Value} (h : Fo l l') : l = l' := by
  induction h with
  | nil => rfl
  | cons _ ih => rw [ih]
def lget : List Value → Nat → Option Value
  | [], _ => none
  | x :: _, 0 => some x
  | _ :: l, i + 1 => lget l i
theorem lget_eq : ∀ (l : List Value) (i : Nat), lget l i = l[i]?
  | [], _ => rfl
  | _ :: _, 0 => rfl
  | _ :: l, i + 1 => by simp [lget, lget_eq l i]
def ltake : Nat → List Value → List Value
  | 0, _ => []
  | _ + 1, [] => []
  | k + 1, x :: l => x :: ltake k l
def lsl : Nat → Nat → List Value → List Value
  | 0, k, l => ltake k l
  | _ + 1, _, [] => []
  | o + 1, k, _ :: l => lsl o k l
theorem ltake_eq : ∀ (k : Nat) (l : List Value), ltake k l = l.take k
  | 0, _ => by simp [ltake]
  | _ + 1, [] => by simp [ltake]
  | k + 1, x :: l => by simp [ltake, ltake_eq k l]
theorem lsl_eq : ∀ (o k : Nat) (l : List Value), lsl o k l = (l.drop o).take k
  | 0, k, l => by simp [lsl, ltake_eq]
  | _ + 1, _, [] => by simp [lsl]
  | o + 1, k, x :: l => by simp [lsl, lsl_eq o k l]
def lsp : Nat → List Value → List Value → List Value
  | _, _, [] => []
  | 0, [], l => l
  | 0, v :: vs, _ :: l => v :: lsp 0 vs l
  | o + 1, vs, x :: l => x :: lsp o vs l
theorem lsp_len : ∀ (o : Nat) (vs l : List Value), (lsp o vs l).length = l.length
  | _, _, [] => by unfold lsp; rfl
  | 0, [], x :: l => by simp [lsp]
  | 0, v :: vs, x :: l => by simp [lsp, lsp_len 0 vs l]
  | o + 1, vs, x :: l => by simp [lsp, lsp_len o vs l]
theorem lsp_eq : ∀ (o : Nat) (vs l : List Value), o + vs.length ≤ l.length → lsp o vs l = l.take o ++ vs ++ l.drop (o + vs.length)
  | o, vs, [], h => by
    have h1 : vs = [] := List.eq_nil_of_length_eq_zero (by simp only [List.length_nil] at h; omega)
    subst h1; simp [lsp]
  | 0, [], x :: l, _ => by simp [lsp]
  | 0, v :: vs, x :: l, h => by
    have := lsp_eq 0 vs l (by simp at h ⊢; omega)
    simp at this
    simp [lsp, this]
  | o + 1, vs, x :: l, h => by
    have := lsp_eq o vs l (by simp at h ⊢; omega)
    have e : o + 1 + vs.length = (o + vs.length) + 1 := by omega
    simp [lsp, this, e]
theorem lsp_get : ∀ (o : Nat) (v : Value) (l : List Value), lsp o [v] l = l.set o v
  | o, v, [] => by simp [lsp]
  | 0, v, x :: l => by cases l <;> simp [lsp]
  | o + 1, v, x :: l => by simp [lsp, lsp_get o v l]
def nlt : Nat → List Value → Bool
  | _, [] => false
  | 0, _ :: _ => true
  | o + 1, _ :: l => nlt o l
theorem nlt_spec : ∀ {o : Nat} {l : List Value}, nlt o l = true → o < l.length
  | _, [], h => by simp [nlt] at h
  | 0, _ :: _, _ => by simp
  | o + 1, _ :: l, h => by have := nlt_spec (o := o) (l := l) h; simp; omega
def ones : List Value → Bool
  | [] => true
  | v :: l => v.oneCell' && ones l
theorem ones_spec : ∀ {l : List Value}, ones l = true → ∀ v ∈ l, v.oneCell' = true
  | [], _, _, h => by cases h
  | x :: l, h, v, hv => by
    simp only [ones, Bool.and_eq_true] at h
    rcases List.mem_cons.1 hv with rfl | hv
    · exact h.1
    · exact ones_spec h.2 v hv
def llen : List Value → Nat
  | [] => 0
  | _ :: l => llen l + 1
theorem llen_eq : ∀ l : List Value, llen l = l.length
  | [] => rfl
  | _ :: l => by simp [llen, llen_eq l]

section
variable {ρ : Regs} {L : List Frag} {d : Option Tmp} {t : TypeId} {p : String} {af : Array Edge} {g : Option (Nat × Bool)}
theorem LD.ld1 {ty : TypeId} [One P ty] {x : Operand} {b o : Nat} {l : List Value} {T : TypeId} {v : Value} (hx : rev ρ x = some (.pointer (some ⟨b, o, none⟩)))
    (hr : blk b T l.toArray ∈ L) (hc : lget l o = some v) : LD P ρ L ⟨d, .load ty x, t, p, af, g⟩ v := LD.load1 hx hr (by rw [lget_eq] at hc; simpa using hc)
theorem LD.ldA {ty : TypeId} {k : Nat} [Agg P ty k] {x : Operand} {b o : Nat} {l vs : List Value} {T : TypeId} (hx : rev ρ x = some (.pointer (some ⟨b, o, none⟩)))
    (hr : blk b T l.toArray ∈ L) (hv : Fo (lsl o k l) vs) (hk : Nat.beq (llen vs) k = true) : LD P ρ L ⟨d, .load ty x, t, p, af, g⟩ (.agg vs.toArray) := by
  have hv := hv.eq
  have hk := Nat.eq_of_beq_eq_true hk
  rw [llen_eq] at hk
  rw [lsl_eq] at hv
  have hlen : o + k ≤ l.length ∨ k = 0 := by
    have : ((l.drop o).take k).length = k := by rw [hv, hk]
    rw [List.length_take, List.length_drop] at this; omega
  rcases hlen with hlen | h0
  · refine LD.loadA hx hr (by simpa using hlen) ?_
    rw [← hv]; simp
  · subst h0
    have : vs = [] := List.eq_nil_of_length_eq_zero hk
    subst this
    intro n a w ha hs
    have h1 : (loadVar ty ⟨b, o, none⟩).run P w = .ok (.agg #[]) w := by
      have := Agg.agg (P := P) (t := ty) (k := 0) w
      have h2 := Agg.size (P := P) (t := ty) (k := 0) w
      simp only [loadVar, Sem.run_bind, this, Result.andThen_ok, if_true, h2]
      rfl
    simp [execOp, ha.eval hx, Instr.loadAt, Instr.sureAddr, h1]
theorem EF.st1 {ty : TypeId} [One P ty] {x y : Operand} {b o i : Nat} {T : TypeId} {l l' : List Value} {v : Value} (hx : rev ρ x = some (.pointer (some ⟨b, o, none⟩))) (hy : rev ρ y = some v) (hv : v.oneCell' = true)
    (hi : L[i]? = some (blk b T l.toArray)) (ho : nlt o l = true) (hl : Fo (lsp o [v] l) l') : EF P ρ L ⟨d, .store ty x y, t, p, af, g⟩ undef (L.set i (blk b T l'.toArray)) := by
  have := EF.store1 (P := P) (ty := ty) (d := d) (t := t) (p := p) (af := af) (g := g) hx hy hv hi (by simpa using nlt_spec ho)
  rw [← hl.eq, lsp_get]
  simpa using this
theorem EF.stA {ty : TypeId} {k : Nat} [Agg P ty k] {x y : Operand} {b o i : Nat} {T : TypeId} {l l' vs : List Value} (hx : rev ρ x = some (.pointer (some ⟨b, o, none⟩))) (hy : rev ρ y = some (.agg vs.toArray))
    (hi : L[i]? = some (blk b T l.toArray)) (hk : Nat.beq (llen vs) k = true) (ho : Nat.ble (o + k) (llen l) = true) (hv : ones vs = true) (hl : Fo (lsp o vs l) l') : EF P ρ L ⟨d, .store ty x y, t, p, af, g⟩ undef (L.set i (blk b T l'.toArray)) := by
  have hk := Nat.eq_of_beq_eq_true hk
  have ho := Nat.le_of_ble_eq_true ho
  rw [llen_eq] at hk ho
  have := EF.storeA (P := P) (ty := ty) (d := d) (t := t) (p := p) (af := af) (g := g) (vs := vs.toArray) hx hy hi (by simpa using hk) (by simpa using ho) (Array.all_eq_true_iff_forall_mem.2 (fun v hv' => ones_spec hv v (by simpa using hv')))
  rw [← hl.eq, lsp_eq o vs l (by omega)]
  simpa [splice] using this
theorem NB.boxA {ty : TypeId} {x : Operand} {l : List Value} (h : rev ρ x = some (.agg l.toArray)) : NB P ρ L ⟨d, .box ty x, t, p, af, g⟩ ty l.toArray (fun b => .pointer (some ⟨b, 0, none⟩)) := NB.box h
theorem NB.box1 {ty : TypeId} {x : Operand} {v : Value} (h : rev ρ x = some v) (h1 : v.oneCell' = true) : NB P ρ L ⟨d, .box ty x, t, p, af, g⟩ ty [v].toArray (fun b => .pointer (some ⟨b, 0, none⟩)) := by
  have : v.cells = [v].toArray := by cases v <;> first | rfl | cases h1
  rw [← this]; exact NB.box h
/-- a struct or an array, laid out -/
def cellsL : Value → List Value
  | .agg cs => cs.toList
  | v => [v]
theorem cellsL_eq (v : Value) : v.cells = (cellsL v).toArray := by cases v <;> simp [Value.cells, cellsL]
def pget : List (Nat × Nat) → Nat → Option (Nat × Nat)
  | [], _ => none
  | x :: _, 0 => some x
  | _ :: l, i + 1 => pget l i
theorem pget_eq : ∀ (l : List (Nat × Nat)) (i : Nat), pget l i = l[i]?
  | [], _ => rfl
  | _ :: _, 0 => rfl
  | _ :: l, i + 1 => by simp [pget, pget_eq l i]
def fillO (place : Nat → Option (Nat × Nat)) (len : Nat) : List (Nat × Value) → Bool
  | [] => true
  | (i, v) :: r => (match place i with | some (o, s) => Nat.beq (llen (cellsL v)) s && Nat.ble (o + s) len | none => false) && fillO place len r
def fillL (place : Nat → Option (Nat × Nat)) : List (Nat × Value) → List Value → List Value
  | [], l => l
  | (i, v) :: r, l => fillL place r (lsp (match place i with | some (o, _) => o | none => 0) (cellsL v) l)
theorem foldl_sets (off : Nat) : ∀ (vs : List Value) (j : Nat) (l : List Value), off + j + vs.length ≤ l.length →
    (vs.zipIdx j).foldl (fun (cs : Array Value) (x : Value × Nat) => cs.setIfInBounds (off + x.2) x.1) l.toArray = (l.take (off + j) ++ vs ++ l.drop (off + j + vs.length)).toArray
  | [], j, l, _ => by simp
  | v :: vs, j, l, h => by
    rw [List.zipIdx_cons, List.foldl_cons]
    have hl : off + j < l.length := by simp at h; omega
    have e : l.toArray.setIfInBounds (off + j) v = (l.set (off + j) v).toArray := by simp
    rw [e, foldl_sets off vs (j + 1) _ (by simp at h ⊢; omega)]
    congr 1
    have e1 : off + (j + 1) = off + j + 1 := by omega
    rw [e1]
    simpa using list_seg_step l (off + j) v vs (by simp at h; omega)
theorem fill_eq {place : Nat → Option (Nat × Nat)} : ∀ {vs : List (Nat × Value)} {l : List Value}, fillO place l.length vs = true → Instr.fill place l.toArray vs = some (fillL place vs l).toArray
  | [], l, _ => rfl
  | (i, v) :: r, l, h => by
    simp only [fillO, Bool.and_eq_true] at h
    cases hp : place i with
    | none => simp [hp] at h
    | some q =>
      obtain ⟨o, s⟩ := q
      simp only [hp, Bool.and_eq_true] at h
      have h1 := Nat.eq_of_beq_eq_true h.1.1
      have h2 := Nat.le_of_ble_eq_true h.1.2
      rw [llen_eq] at h1
      have hsz : v.cells.size = s := by rw [cellsL_eq]; simpa using h1
      have hc : ¬ ((v.cells.size ≠ s || o + v.cells.size > l.toArray.size) = true) := by simp [hsz]; omega
      simp only [Instr.fill, hp, if_neg hc]
      have hf : v.cells.zipIdx.foldl (fun cs (x : Value × Nat) => cs.setIfInBounds (o + x.2) x.1) l.toArray = (lsp o (cellsL v) l).toArray := by
        rw [cellsL_eq, ← Array.foldl_toList]
        have := foldl_sets o (cellsL v) 0 l (by omega)
        simp only [Nat.add_zero] at this
        rw [lsp_eq o _ l (by omega), ← this]
        congr 1
        simp
      rw [hf]
      have := fill_eq (place := place) (vs := r) (l := lsp o (cellsL v) l) (by rw [lsp_len]; exact h.2)
      rw [this]
      simp [fillL, hp]
theorem LD.bS {T : TypeId} {zl cs : List Value} {ps : List (Nat × Nat)} [hz : ZeroV P T zl.toArray] [hT : StructT P T ps.toArray] {parts : List (Nat × Operand)} {vs : List (Nat × Value)}
    (hv : revs ρ parts = some vs) (ho : fillO (pget ps) (llen zl) vs = true) (hf : Fo (fillL (pget ps) vs zl) cs) : LD P ρ L ⟨d, .build T parts.toArray, t, p, af, g⟩ (.agg cs.toArray) := by
  refine LD.buildS (parts_of hv) ?_
  rw [llen_eq] at ho
  have := fill_eq ho
  rw [hf.eq] at this
  have e : (fun x => ps.toArray[x]?) = pget ps := by funext x; rw [pget_eq]; simp
  rw [e]; exact this
theorem LD.bA {T len e k : Nat} {zl cs : List Value} [hz : ZeroV P T zl.toArray] [hT : ArrT P T len e k] {parts : List (Nat × Operand)} {vs : List (Nat × Value)}
    (hv : revs ρ parts = some vs) (ho : fillO (fun i => some (i * k, k)) (llen zl) vs = true) (hf : Fo (fillL (fun i => some (i * k, k)) vs zl) cs) : LD P ρ L ⟨d, .build T parts.toArray, t, p, af, g⟩ (.agg cs.toArray) := by
  refine LD.buildA (parts_of hv) ?_
  rw [llen_eq] at ho
  rw [fill_eq ho, hf.eq]
def lapp : List Value → List Value → List Value
  | [], m => m
  | x :: l, m => x :: lapp l m
theorem lapp_eq : ∀ l m : List Value, lapp l m = l ++ m
  | [], _ => rfl
  | x :: l, m => by simp [lapp, lapp_eq l m]
def lrep : Nat → List Value → List Value
  | 0, _ => []
  | n + 1, z => lapp z (lrep n z)
theorem range_rep (z : List Value) : ∀ n : Nat, (List.range (n * z.length)).map (fun x => z.toArray[x % z.length]!) = lrep n z
  | 0 => by simp [lrep]
  | n + 1 => by
    have e : (n + 1) * z.length = z.length + n * z.length := by rw [Nat.succ_mul]; omega
    rw [e, List.range_add, List.map_append, List.map_map, lrep, lapp_eq]
    congr 1
    · apply List.ext_getElem
      · simp
      · intro j h1 h2
        have hj : j < z.length := h2
        simp [Nat.mod_eq_of_lt hj, hj]
    · rw [← range_rep z n]
      apply List.map_congr_left
      intro x _
      simp [Nat.add_mod_left]
theorem NB.bSl {T e k len : Nat} {zl cs : List Value} [hT : SliceT P T e k] [hz : ZeroV P e zl.toArray] {parts : List (Nat × Operand)} {vs : List (Nat × Value)}
    (hv : revs ρ parts = some vs) (hk : (Nat.beq (llen zl) k && Nat.blt 0 (len * k) && Nat.ble (len * k) 16777216) = true) (ho : fillO (fun i => some (i * k, k)) (len * k) vs = true) (hf : Fo (fillL (fun i => some (i * k, k)) vs (lrep len zl)) cs) :
    NB P ρ L ⟨d, .buildSlice T len parts.toArray, t, p, af, g⟩ e cs.toArray (fun b => .slice (some ⟨b, 0, none⟩) len len) := by
  simp only [Bool.and_eq_true] at hk
  have h1 := Nat.eq_of_beq_eq_true hk.1.1
  rw [llen_eq] at h1
  have h2 : 0 < len * k := by have := hk.1.2; simp [Nat.blt] at this; omega
  have h3 := Nat.le_of_ble_eq_true hk.2
  refine NB.buildSlice (parts_of hv) ⟨h2, h3⟩ ?_
  have e1 : (Array.range (len * k)).map (fun x => zl.toArray[x % zl.toArray.size]!) = (lrep len zl).toArray := by
    rw [← range_rep zl len, h1]; apply Array.ext'; simp [h1]
  have e2 : (lrep len zl).length = len * k := by rw [← range_rep zl len, h1]; simp
  rw [e1]
  have := fill_eq (place := fun i => some (i * k, k)) (vs := vs) (l := lrep len zl) (by rw [e2]; exact ho)
  rw [this, hf.eq]
theorem LD.subw {x y : Operand} {tx ty : TypeId} {a b : Int} (hx : rev ρ x = some (.int .i64 a)) (hy : rev ρ y = some (.int .i64 b)) : LD P ρ L ⟨d, .binOp .sub tx x y ty, t, p, af, g⟩ (.int .i64 (IntKind.wrap .i64 (a - b))) := LD.bin hx hy (fun _ _ _ => eqGuard_int ..) fun w => by simp [binOp, Op.intArith]
theorem LD.mulw {x y : Operand} {tx ty : TypeId} {a b : Int} (hx : rev ρ x = some (.int .i64 a)) (hy : rev ρ y = some (.int .i64 b)) : LD P ρ L ⟨d, .binOp .mul tx x y ty, t, p, af, g⟩ (.int .i64 (IntKind.wrap .i64 (a * b))) := LD.bin hx hy (fun _ _ _ => eqGuard_int ..) fun w => by simp [binOp, Op.intArith]
end
theorem LD.ex {ρ : Regs} {L : List Frag} {d : Option Tmp} {t : TypeId} {p : String} {af : Array Edge} {g : Option (Nat × Bool)} {x : Operand} {l : List Value} {i : Nat} {v : Value} (h : rev ρ x = some (.tuple l.toArray)) (hv : lget l i = some v) : LD P ρ L ⟨d, .extract x i, t, p, af, g⟩ v :=
  LD.extract h (by rw [lget_eq] at hv; simpa using hv)
theorem TD.nilT {ops : Array Oper} {R L : List Frag} {K : Nat → Nat} {Q : Post} {ρ : Regs} {ph : Bool} {y : Code} (k : TC P n Q y ρ (L ++ R)) : TD P n ops R [] K (Post.seq (TC P n Q y) Q) [] ρ ph L :=
  TD.nil (by cases ph <;> exact TC.perm (List.perm_append_comm) k)
theorem blk_disj {p b : Nat} {T U : TypeId} {cs ds : Array Value} (h : p ≠ b) : Disj (blk p T cs) (blk b U ds) := fun x => by
  by_cases hx : x = p
  · right; subst hx; simp [blk, h]
  · left; simp [blk, hx]
theorem ne_of_disj {p b : Nat} {T U : TypeId} {cs ds : Array Value} (h : Disj (blk p T cs) (blk b U ds)) : p ≠ b := by
  rintro rfl
  have := h p
  rw [blk_same, blk_same] at this
  rcases this with e | e <;> cases e
theorem pair_disj {r s : Frag} (h : Disj r s) : [r, s].Pairwise Disj := List.pairwise_cons.2 ⟨fun x hx => by simp at hx; exact hx ▸ h, List.pairwise_cons.2 ⟨fun _ h => (by cases h), List.Pairwise.nil⟩⟩
theorem Rd.got {r : Frag} {q : Option Addr} {k : Nat} {es : List (List Value)} (h : Rd r q k es) (hne : es ≠ []) : ∃ b o cs T fr, q = some ⟨b, o, none⟩ ∧ r b = some (.cells cs T fr) ∧ ∀ j v, es.flatten[j]? = some v → cs[o + j]? = some v := h.at_.resolve_left hne
section
variable {ρ : Regs} {L : List Frag} {d : Option Tmp} {t : TypeId} {p : String} {af : Array Edge} {g : Option (Nat × Bool)}
theorem LD.elA {ty : TypeId} {k : Nat} [Agg P ty k] {x : Operand} {b o j : Nat} {r : Frag} {cs : Array Value} {T : TypeId} {fr : Nat × Nat} {es : List (List Value)} {e : List Value} (hx : rev ρ x = some (.pointer (some ⟨b, o + j * k, none⟩)))
    (hr : r ∈ L) (hb : r b = some (.cells cs T fr)) (hc : ∀ j v, es.flatten[j]? = some v → cs[o + j]? = some v) (hl : ∀ e ∈ es, e.length = k) (he : es[j]? = some e) : LD P ρ L ⟨d, .load ty x, t, p, af, g⟩ (.agg e.toArray) := by
  have hek : e.length = k := hl e (List.mem_of_getElem? he)
  have key : ∀ i v, e[i]? = some v → cs[o + j * k + i]? = some v := fun i v hv => by
    have := hc _ _ (flatten_get hl he hv)
    rwa [← Nat.add_assoc] at this
  have hsz : o + j * k + k ≤ cs.size ∨ k = 0 := by
    rcases Nat.eq_zero_or_pos k with h0 | h0
    · exact .inr h0
    · left
      have := key (k - 1) _ (List.getElem?_eq_getElem (by omega))
      have := (Array.getElem?_eq_some_iff.1 this).1
      omega
  intro n a w ha hs
  have hw := mem_heap hs hr hb
  have hl' : (loadCells ⟨b, o + j * k, none⟩ e.length).run P w = .ok e.toArray w :=
    run_loadCells_list (P := P) w ⟨b, o + j * k, none⟩ e (fun i v hv => by
      rw [Addr.add_none, cell_of_row w b _ cs T fr hw]; exact key i v hv)
  rw [hek] at hl'
  have h1 := Agg.agg (P := P) (t := ty) (k := k) w
  have h2 := Agg.size (P := P) (t := ty) (k := k) w
  have hlv : (loadVar ty ⟨b, o + j * k, none⟩).run P w = .ok (.agg e.toArray) w := by
    simp only [loadVar, Sem.run_bind, h1, Result.andThen_ok, if_true, h2, hl']
    rfl
  simp [execOp, ha.eval hx, Instr.loadAt, Instr.sureAddr, hlv]
theorem LD.el1 {ty : TypeId} {k : Nat} [One P ty] {x : Operand} {b o j f : Nat} {r : Frag} {cs : Array Value} {T : TypeId} {fr : Nat × Nat} {es : List (List Value)} {e : List Value} {v : Value} (hx : rev ρ x = some (.pointer (some ⟨b, o + j * k + f, none⟩)))
    (hr : r ∈ L) (hb : r b = some (.cells cs T fr)) (hc : ∀ j v, es.flatten[j]? = some v → cs[o + j]? = some v) (hl : ∀ e ∈ es, e.length = k) (he : es[j]? = some e) (hv : e[f]? = some v) : LD P ρ L ⟨d, .load ty x, t, p, af, g⟩ v :=
  LD.load1f hx hr hb (by have := hc _ _ (flatten_get hl he hv); rwa [← Nat.add_assoc] at this)
end
end Go.SL
