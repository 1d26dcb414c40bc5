/- A part of proofs about the given program. No condition. -/
import Derived.Test.YtcgfdjijodlopaaGreatEa
import Derived.Laws.StructEq
import Derived.ChangeKeysEq
set_option linter.all false
section
/- More rules. -/
namespace Go.SL
open Go.RowKit
variable {P : Program} {n : Nat}
section
variable {ρ : Regs} {L : List Frag} {d : Option Tmp} {t : TypeId} {p : String} {af : Array Edge} {g : Option (Nat × Bool)}
theorem LD.indexAddrA {T e k len b o : Nat} [hs : ArrT P T len e k] {x y : Operand} {i : Int} {ik : IntKind} (hx : rev ρ x = some (.pointer (some ⟨b, o, none⟩))) (hy : rev ρ y = some (.int ik i)) (hi : 0 ≤ i ∧ i < len) :
    LD P ρ L ⟨d, .indexAddr T x y, t, p, af, g⟩ (.pointer (some ⟨b, o + i.toNat * k, none⟩)) := fun m a w hr _ => by
  simp [execOp, Instr.indexAt, hr.eval hx, hr.eval hy, asIntOf, run_underlying hs.und, hi, hs.size, Addr.add_none, Instr.sureAddr]
theorem LD.indexA {T e k len : Nat} [hs : ArrT P T len e k] [ha : Agg P e k] {x y : Operand} {i : Int} {ik : IntKind} {cs vs : Array Value} (hx : rev ρ x = some (.agg cs)) (hy : rev ρ y = some (.int ik i)) (hi : 0 ≤ i ∧ i < len) (hv : cs.extract (i.toNat * k) (i.toNat * k + k) = vs) :
    LD P ρ L ⟨d, .index T x y, t, p, af, g⟩ (.agg vs) := fun m a w hr _ => by
  simp [execOp, Instr.index, hr.eval hx, hr.eval hy, asIntOf, run_underlying hs.und, hi, hs.size, part, ha.agg, hv]
theorem LD.index1 {T e k len : Nat} [hs : ArrT P T len e k] [ha : One P e] {x y : Operand} {i : Int} {ik : IntKind} {cs : Array Value} {v : Value} (hx : rev ρ x = some (.agg cs)) (hy : rev ρ y = some (.int ik i)) (hi : 0 ≤ i ∧ i < len) (hv : cs[i.toNat * k]? = some v) :
    LD P ρ L ⟨d, .index T x y, t, p, af, g⟩ v := fun m a w hr _ => by
  simp [execOp, Instr.index, hr.eval hx, hr.eval hy, asIntOf, run_underlying hs.und, hi, hs.size, part, ha.agg, hv]
theorem LD.makeFunc {f : Go.Fn} {first cap : Array Operand} {vs us : List Value} (h1 : revl ρ first.toList = some vs) (h2 : revl ρ cap.toList = some us) : LD P ρ L ⟨d, .makeFunc f first cap, t, p, af, g⟩ (.func f vs.toArray us.toArray) := fun m a w hr _ => by
  have e1 := revl_eval hr h1
  have e2 := revl_eval hr h2
  have e1' : first.map a.eval = vs.toArray := by rw [← e1, ← Array.toList_map, Array.toArray_toList]
  have e2' : cap.map a.eval = us.toArray := by rw [← e2, ← Array.toList_map, Array.toArray_toList]
  simp [execOp, Instr.makeFunc, e1', e2']
theorem LD.nilCheckF {x : Operand} {f : FuncId} {a b : Array Value} (h : rev ρ x = some (.func (.func f) a b)) : LD P ρ L ⟨d, .nilCheck x, t, p, af, g⟩ (.func (.func f) a b) := fun n a w hr _ => by simp [execOp, hr.eval h]
end
section
variable {Q : Post} {ρ : Regs} {L : List Frag}
/-- a loop; what a round leaves behind is forgotten -/
theorem TC.loopd {α : Type} {c : Code} (ρI : α → Regs) (LI : α → List Frag) (I : α → Prop) (μ : α → Nat) (x0 : α) (hI : I x0) (hρ : subr (ρI x0) ρ) (hL : ∃ X, L.Perm (X ++ LI x0))
    (round : ∀ x, I x → TC P n (Post.seq (fun ρ' L' => ∃ y, I y ∧ μ y < μ x ∧ subr (ρI y) ρ' ∧ ∃ X, L'.Perm (X ++ LI y)) Q) c (ρI x) (LI x)) : TC P n Q (.loop c) ρ L := fun a w hr hs => by
  refine wp_loop_ghost (fun k a' w' => ∃ x, I x ∧ μ x = k ∧ Rep n a' (ρI x) ∧ Sat w' (LI x) ∧ Keep w w') (μ x0) ?_ ?_
  · obtain ⟨X, hX⟩ := hL
    exact ⟨x0, hI, rfl, hr.weak (subr_get hρ), (hs.perm hX).of_sublist (List.sublist_append_right X _), Keep.refl w⟩
  · rintro k a' w' ⟨x, h1, rfl, h3, h4, h5⟩
    refine Code_mono (fun e a'' w'' hl => ?_) (round x h1 a' w' h3 h4)
    obtain ⟨ρ', L', g1, g2, g3, g4⟩ := hl
    cases e with
    | normal =>
      obtain ⟨y, y1, y2, y3, X, y4⟩ := g4
      exact ⟨μ y, y2, y, y1, rfl, g1.weak (subr_get y3), (g2.perm y4).of_sublist (List.sublist_append_right X _), h5.trans g3⟩
    | _ => exact ⟨ρ', L', g1, g2, h5.trans g3, g4⟩
end
end Go.SL
end
section
/- Rules whose outcomes are literal lists. -/
namespace Go.SL
open Go.RowKit
variable {P : Program} {n : Nat}

/-- the same list, spelled out -/
inductive Fo : List Value → List Value → Prop
  | nil : Fo [] []
  | cons {x : Value} {l l' : List Value} (h : Fo l l') : Fo (x :: l) (x :: l')
theorem Fo.eq {l l' : List Value} (h : Fo l l') : l = l' := by
  induction h with
  | nil => rfl
  | cons _ ih => rw [ih]
def lget : List Value → Nat → Option Value
  | [], _ => none
  | x :: _, 0 => some x
  | _ :: l, i + 1 => lget l i
theorem lget_eq : ∀ (l : List Value) (i : Nat), lget l i = l[i]?
  | [], _ => rfl
  | _ :: _, 0 => rfl
  | _ :: l, i + 1 => by simp [lget, lget_eq l i]
def ltake : Nat → List Value → List Value
  | 0, _ => []
  | _ + 1, [] => []
  | k + 1, x :: l => x :: ltake k l
def lsl : Nat → Nat → List Value → List Value
  | 0, k, l => ltake k l
  | _ + 1, _, [] => []
  | o + 1, k, _ :: l => lsl o k l
theorem ltake_eq : ∀ (k : Nat) (l : List Value), ltake k l = l.take k
  | 0, _ => by simp [ltake]
  | _ + 1, [] => by simp [ltake]
  | k + 1, x :: l => by simp [ltake, ltake_eq k l]
theorem lsl_eq : ∀ (o k : Nat) (l : List Value), lsl o k l = (l.drop o).take k
  | 0, k, l => by simp [lsl, ltake_eq]
  | _ + 1, _, [] => by simp [lsl]
  | o + 1, k, x :: l => by simp [lsl, lsl_eq o k l]
def lsp : Nat → List Value → List Value → List Value
  | _, _, [] => []
  | 0, [], l => l
  | 0, v :: vs, _ :: l => v :: lsp 0 vs l
  | o + 1, vs, x :: l => x :: lsp o vs l
theorem lsp_len : ∀ (o : Nat) (vs l : List Value), (lsp o vs l).length = l.length
  | _, _, [] => by unfold lsp; rfl
  | 0, [], x :: l => by simp [lsp]
  | 0, v :: vs, x :: l => by simp [lsp, lsp_len 0 vs l]
  | o + 1, vs, x :: l => by simp [lsp, lsp_len o vs l]
theorem lsp_eq : ∀ (o : Nat) (vs l : List Value), o + vs.length ≤ l.length → lsp o vs l = l.take o ++ vs ++ l.drop (o + vs.length)
  | o, vs, [], h => by
    have h1 : vs = [] := List.eq_nil_of_length_eq_zero (by simp only [List.length_nil] at h; omega)
    subst h1; simp [lsp]
  | 0, [], x :: l, _ => by simp [lsp]
  | 0, v :: vs, x :: l, h => by
    have := lsp_eq 0 vs l (by simp at h ⊢; omega)
    simp at this
    simp [lsp, this]
  | o + 1, vs, x :: l, h => by
    have := lsp_eq o vs l (by simp at h ⊢; omega)
    have e : o + 1 + vs.length = (o + vs.length) + 1 := by omega
    simp [lsp, this, e]
theorem lsp_get : ∀ (o : Nat) (v : Value) (l : List Value), lsp o [v] l = l.set o v
  | o, v, [] => by simp [lsp]
  | 0, v, x :: l => by cases l <;> simp [lsp]
  | o + 1, v, x :: l => by simp [lsp, lsp_get o v l]
def nlt : Nat → List Value → Bool
  | _, [] => false
  | 0, _ :: _ => true
  | o + 1, _ :: l => nlt o l
theorem nlt_spec : ∀ {o : Nat} {l : List Value}, nlt o l = true → o < l.length
  | _, [], h => by simp [nlt] at h
  | 0, _ :: _, _ => by simp
  | o + 1, _ :: l, h => by have := nlt_spec (o := o) (l := l) h; simp; omega
def ones : List Value → Bool
  | [] => true
  | v :: l => v.oneCell' && ones l
theorem ones_spec : ∀ {l : List Value}, ones l = true → ∀ v ∈ l, v.oneCell' = true
  | [], _, _, h => by cases h
  | x :: l, h, v, hv => by
    simp only [ones, Bool.and_eq_true] at h
    rcases List.mem_cons.1 hv with rfl | hv
    · exact h.1
    · exact ones_spec h.2 v hv
def llen : List Value → Nat
  | [] => 0
  | _ :: l => llen l + 1
theorem llen_eq : ∀ l : List Value, llen l = l.length
  | [] => rfl
  | _ :: l => by simp [llen, llen_eq l]

section
variable {ρ : Regs} {L : List Frag} {d : Option Tmp} {t : TypeId} {p : String} {af : Array Edge} {g : Option (Nat × Bool)}
theorem LD.ld1 {ty : TypeId} [One P ty] {x : Operand} {b o : Nat} {l : List Value} {T : TypeId} {v : Value} (hx : rev ρ x = some (.pointer (some ⟨b, o, none⟩)))
    (hr : blk b T l.toArray ∈ L) (hc : lget l o = some v) : LD P ρ L ⟨d, .load ty x, t, p, af, g⟩ v := LD.load1 hx hr (by rw [lget_eq] at hc; simpa using hc)
theorem LD.ldA {ty : TypeId} {k : Nat} [Agg P ty k] {x : Operand} {b o : Nat} {l vs : List Value} {T : TypeId} (hx : rev ρ x = some (.pointer (some ⟨b, o, none⟩)))
    (hr : blk b T l.toArray ∈ L) (hv : Fo (lsl o k l) vs) (hk : Nat.beq (llen vs) k = true) : LD P ρ L ⟨d, .load ty x, t, p, af, g⟩ (.agg vs.toArray) := by
  have hv := hv.eq
  have hk := Nat.eq_of_beq_eq_true hk
  rw [llen_eq] at hk
  rw [lsl_eq] at hv
  have hlen : o + k ≤ l.length ∨ k = 0 := by
    have : ((l.drop o).take k).length = k := by rw [hv, hk]
    rw [List.length_take, List.length_drop] at this; omega
  rcases hlen with hlen | h0
  · refine LD.loadA hx hr (by simpa using hlen) ?_
    rw [← hv]; simp
  · subst h0
    have : vs = [] := List.eq_nil_of_length_eq_zero hk
    subst this
    intro n a w ha hs
    have h1 : (loadVar ty ⟨b, o, none⟩).run P w = .ok (.agg #[]) w := by
      have := Agg.agg (P := P) (t := ty) (k := 0) w
      have h2 := Agg.size (P := P) (t := ty) (k := 0) w
      simp only [loadVar, Sem.run_bind, this, Result.andThen_ok, if_true, h2]
      rfl
    simp [execOp, ha.eval hx, Instr.loadAt, Instr.sureAddr, h1]
theorem EF.st1 {ty : TypeId} [One P ty] {x y : Operand} {b o i : Nat} {T : TypeId} {l l' : List Value} {v : Value} (hx : rev ρ x = some (.pointer (some ⟨b, o, none⟩))) (hy : rev ρ y = some v) (hv : v.oneCell' = true)
    (hi : L[i]? = some (blk b T l.toArray)) (ho : nlt o l = true) (hl : Fo (lsp o [v] l) l') : EF P ρ L ⟨d, .store ty x y, t, p, af, g⟩ undef (L.set i (blk b T l'.toArray)) := by
  have := EF.store1 (P := P) (ty := ty) (d := d) (t := t) (p := p) (af := af) (g := g) hx hy hv hi (by simpa using nlt_spec ho)
  rw [← hl.eq, lsp_get]
  simpa using this
theorem EF.stA {ty : TypeId} {k : Nat} [Agg P ty k] {x y : Operand} {b o i : Nat} {T : TypeId} {l l' vs : List Value} (hx : rev ρ x = some (.pointer (some ⟨b, o, none⟩))) (hy : rev ρ y = some (.agg vs.toArray))
    (hi : L[i]? = some (blk b T l.toArray)) (hk : Nat.beq (llen vs) k = true) (ho : Nat.ble (o + k) (llen l) = true) (hv : ones vs = true) (hl : Fo (lsp o vs l) l') : EF P ρ L ⟨d, .store ty x y, t, p, af, g⟩ undef (L.set i (blk b T l'.toArray)) := by
  have hk := Nat.eq_of_beq_eq_true hk
  have ho := Nat.le_of_ble_eq_true ho
  rw [llen_eq] at hk ho
  have := EF.storeA (P := P) (ty := ty) (d := d) (t := t) (p := p) (af := af) (g := g) (vs := vs.toArray) hx hy hi (by simpa using hk) (by simpa using ho) (Array.all_eq_true_iff_forall_mem.2 (fun v hv' => ones_spec hv v (by simpa using hv')))
  rw [← hl.eq, lsp_eq o vs l (by omega)]
  simpa [splice] using this
theorem NB.boxA {ty : TypeId} {x : Operand} {l : List Value} (h : rev ρ x = some (.agg l.toArray)) : NB P ρ L ⟨d, .box ty x, t, p, af, g⟩ ty l.toArray (fun b => .pointer (some ⟨b, 0, none⟩)) := NB.box h
theorem NB.box1 {ty : TypeId} {x : Operand} {v : Value} (h : rev ρ x = some v) (h1 : v.oneCell' = true) : NB P ρ L ⟨d, .box ty x, t, p, af, g⟩ ty [v].toArray (fun b => .pointer (some ⟨b, 0, none⟩)) := by
  have : v.cells = [v].toArray := by cases v <;> first | rfl | cases h1
  rw [← this]; exact NB.box h
/-- a struct or an array, laid out -/
def cellsL : Value → List Value
  | .agg cs => cs.toList
  | v => [v]
theorem cellsL_eq (v : Value) : v.cells = (cellsL v).toArray := by cases v <;> simp [Value.cells, cellsL]
def pget : List (Nat × Nat) → Nat → Option (Nat × Nat)
  | [], _ => none
  | x :: _, 0 => some x
  | _ :: l, i + 1 => pget l i
theorem pget_eq : ∀ (l : List (Nat × Nat)) (i : Nat), pget l i = l[i]?
  | [], _ => rfl
  | _ :: _, 0 => rfl
  | _ :: l, i + 1 => by simp [pget, pget_eq l i]
def fillO (place : Nat → Option (Nat × Nat)) (len : Nat) : List (Nat × Value) → Bool
  | [] => true
  | (i, v) :: r => (match place i with | some (o, s) => Nat.beq (llen (cellsL v)) s && Nat.ble (o + s) len | none => false) && fillO place len r
def fillL (place : Nat → Option (Nat × Nat)) : List (Nat × Value) → List Value → List Value
  | [], l => l
  | (i, v) :: r, l => fillL place r (lsp (match place i with | some (o, _) => o | none => 0) (cellsL v) l)
theorem foldl_sets (off : Nat) : ∀ (vs : List Value) (j : Nat) (l : List Value), off + j + vs.length ≤ l.length →
    (vs.zipIdx j).foldl (fun (cs : Array Value) (x : Value × Nat) => cs.setIfInBounds (off + x.2) x.1) l.toArray = (l.take (off + j) ++ vs ++ l.drop (off + j + vs.length)).toArray
  | [], j, l, _ => by simp
  | v :: vs, j, l, h => by
    rw [List.zipIdx_cons, List.foldl_cons]
    have hl : off + j < l.length := by simp at h; omega
    have e : l.toArray.setIfInBounds (off + j) v = (l.set (off + j) v).toArray := by simp
    rw [e, foldl_sets off vs (j + 1) _ (by simp at h ⊢; omega)]
    congr 1
    have e1 : off + (j + 1) = off + j + 1 := by omega
    rw [e1]
    simpa using list_seg_step l (off + j) v vs (by simp at h; omega)
theorem fill_eq {place : Nat → Option (Nat × Nat)} : ∀ {vs : List (Nat × Value)} {l : List Value}, fillO place l.length vs = true → Instr.fill place l.toArray vs = some (fillL place vs l).toArray
  | [], l, _ => rfl
  | (i, v) :: r, l, h => by
    simp only [fillO, Bool.and_eq_true] at h
    cases hp : place i with
    | none => simp [hp] at h
    | some q =>
      obtain ⟨o, s⟩ := q
      simp only [hp, Bool.and_eq_true] at h
      have h1 := Nat.eq_of_beq_eq_true h.1.1
      have h2 := Nat.le_of_ble_eq_true h.1.2
      rw [llen_eq] at h1
      have hsz : v.cells.size = s := by rw [cellsL_eq]; simpa using h1
      have hc : ¬ ((v.cells.size ≠ s || o + v.cells.size > l.toArray.size) = true) := by simp [hsz]; omega
      simp only [Instr.fill, hp, if_neg hc]
      have hf : v.cells.zipIdx.foldl (fun cs (x : Value × Nat) => cs.setIfInBounds (o + x.2) x.1) l.toArray = (lsp o (cellsL v) l).toArray := by
        rw [cellsL_eq, ← Array.foldl_toList]
        have := foldl_sets o (cellsL v) 0 l (by omega)
        simp only [Nat.add_zero] at this
        rw [lsp_eq o _ l (by omega), ← this]
        congr 1
        simp
      rw [hf]
      have := fill_eq (place := place) (vs := r) (l := lsp o (cellsL v) l) (by rw [lsp_len]; exact h.2)
      rw [this]
      simp [fillL, hp]
theorem LD.bS {T : TypeId} {zl cs : List Value} {ps : List (Nat × Nat)} [hz : ZeroV P T zl.toArray] [hT : StructT P T ps.toArray] {parts : List (Nat × Operand)} {vs : List (Nat × Value)}
    (hv : revs ρ parts = some vs) (ho : fillO (pget ps) (llen zl) vs = true) (hf : Fo (fillL (pget ps) vs zl) cs) : LD P ρ L ⟨d, .build T parts.toArray, t, p, af, g⟩ (.agg cs.toArray) := by
  refine LD.buildS (parts_of hv) ?_
  rw [llen_eq] at ho
  have := fill_eq ho
  rw [hf.eq] at this
  have e : (fun x => ps.toArray[x]?) = pget ps := by funext x; rw [pget_eq]; simp
  rw [e]; exact this
theorem LD.bA {T len e k : Nat} {zl cs : List Value} [hz : ZeroV P T zl.toArray] [hT : ArrT P T len e k] {parts : List (Nat × Operand)} {vs : List (Nat × Value)}
    (hv : revs ρ parts = some vs) (ho : fillO (fun i => some (i * k, k)) (llen zl) vs = true) (hf : Fo (fillL (fun i => some (i * k, k)) vs zl) cs) : LD P ρ L ⟨d, .build T parts.toArray, t, p, af, g⟩ (.agg cs.toArray) := by
  refine LD.buildA (parts_of hv) ?_
  rw [llen_eq] at ho
  rw [fill_eq ho, hf.eq]
def lapp : List Value → List Value → List Value
  | [], m => m
  | x :: l, m => x :: lapp l m
theorem lapp_eq : ∀ l m : List Value, lapp l m = l ++ m
  | [], _ => rfl
  | x :: l, m => by simp [lapp, lapp_eq l m]
def lrep : Nat → List Value → List Value
  | 0, _ => []
  | n + 1, z => lapp z (lrep n z)
theorem range_rep (z : List Value) : ∀ n : Nat, (List.range (n * z.length)).map (fun x => z.toArray[x % z.length]!) = lrep n z
  | 0 => by simp [lrep]
  | n + 1 => by
    have e : (n + 1) * z.length = z.length + n * z.length := by rw [Nat.succ_mul]; omega
    rw [e, List.range_add, List.map_append, List.map_map, lrep, lapp_eq]
    congr 1
    · apply List.ext_getElem
      · simp
      · intro j h1 h2
        have hj : j < z.length := h2
        simp [Nat.mod_eq_of_lt hj, hj]
    · rw [← range_rep z n]
      apply List.map_congr_left
      intro x _
      simp [Nat.add_mod_left]
theorem NB.bSl {T e k len : Nat} {zl cs : List Value} [hT : SliceT P T e k] [hz : ZeroV P e zl.toArray] {parts : List (Nat × Operand)} {vs : List (Nat × Value)}
    (hv : revs ρ parts = some vs) (hk : (Nat.beq (llen zl) k && Nat.blt 0 (len * k) && Nat.ble (len * k) 16777216) = true) (ho : fillO (fun i => some (i * k, k)) (len * k) vs = true) (hf : Fo (fillL (fun i => some (i * k, k)) vs (lrep len zl)) cs) :
    NB P ρ L ⟨d, .buildSlice T len parts.toArray, t, p, af, g⟩ e cs.toArray (fun b => .slice (some ⟨b, 0, none⟩) len len) := by
  simp only [Bool.and_eq_true] at hk
  have h1 := Nat.eq_of_beq_eq_true hk.1.1
  rw [llen_eq] at h1
  have h2 : 0 < len * k := by have := hk.1.2; simp [Nat.blt] at this; omega
  have h3 := Nat.le_of_ble_eq_true hk.2
  refine NB.buildSlice (parts_of hv) ⟨h2, h3⟩ ?_
  have e1 : (Array.range (len * k)).map (fun x => zl.toArray[x % zl.toArray.size]!) = (lrep len zl).toArray := by
    rw [← range_rep zl len, h1]; apply Array.ext'; simp [h1]
  have e2 : (lrep len zl).length = len * k := by rw [← range_rep zl len, h1]; simp
  rw [e1]
  have := fill_eq (place := fun i => some (i * k, k)) (vs := vs) (l := lrep len zl) (by rw [e2]; exact ho)
  rw [this, hf.eq]
theorem LD.subw {x y : Operand} {tx ty : TypeId} {a b : Int} (hx : rev ρ x = some (.int .i64 a)) (hy : rev ρ y = some (.int .i64 b)) : LD P ρ L ⟨d, .binOp .sub tx x y ty, t, p, af, g⟩ (.int .i64 (IntKind.wrap .i64 (a - b))) := LD.bin hx hy (fun _ _ _ => eqGuard_int ..) fun w => by simp [binOp, Op.intArith]
theorem LD.mulw {x y : Operand} {tx ty : TypeId} {a b : Int} (hx : rev ρ x = some (.int .i64 a)) (hy : rev ρ y = some (.int .i64 b)) : LD P ρ L ⟨d, .binOp .mul tx x y ty, t, p, af, g⟩ (.int .i64 (IntKind.wrap .i64 (a * b))) := LD.bin hx hy (fun _ _ _ => eqGuard_int ..) fun w => by simp [binOp, Op.intArith]
end
theorem LD.ex {ρ : Regs} {L : List Frag} {d : Option Tmp} {t : TypeId} {p : String} {af : Array Edge} {g : Option (Nat × Bool)} {x : Operand} {l : List Value} {i : Nat} {v : Value} (h : rev ρ x = some (.tuple l.toArray)) (hv : lget l i = some v) : LD P ρ L ⟨d, .extract x i, t, p, af, g⟩ v :=
  LD.extract h (by rw [lget_eq] at hv; simpa using hv)
theorem TD.nilT {ops : Array Oper} {R L : List Frag} {K : Nat → Nat} {Q : Post} {ρ : Regs} {ph : Bool} {y : Code} (k : TC P n Q y ρ (L ++ R)) : TD P n ops R [] K (Post.seq (TC P n Q y) Q) [] ρ ph L :=
  TD.nil (by cases ph <;> exact TC.perm (List.perm_append_comm) k)
theorem blk_disj {p b : Nat} {T U : TypeId} {cs ds : Array Value} (h : p ≠ b) : Disj (blk p T cs) (blk b U ds) := fun x => by
  by_cases hx : x = p
  · right; subst hx; simp [blk, h]
  · left; simp [blk, hx]
theorem ne_of_disj {p b : Nat} {T U : TypeId} {cs ds : Array Value} (h : Disj (blk p T cs) (blk b U ds)) : p ≠ b := by
  rintro rfl
  have := h p
  rw [blk_same, blk_same] at this
  rcases this with e | e <;> cases e
theorem pair_disj {r s : Frag} (h : Disj r s) : [r, s].Pairwise Disj := List.pairwise_cons.2 ⟨fun x hx => by simp at hx; exact hx ▸ h, List.pairwise_cons.2 ⟨fun _ h => (by cases h), List.Pairwise.nil⟩⟩
theorem Rd.got {r : Frag} {q : Option Addr} {k : Nat} {es : List (List Value)} (h : Rd r q k es) (hne : es ≠ []) : ∃ b o cs T fr, q = some ⟨b, o, none⟩ ∧ r b = some (.cells cs T fr) ∧ ∀ j v, es.flatten[j]? = some v → cs[o + j]? = some v := h.at_.resolve_left hne
section
variable {ρ : Regs} {L : List Frag} {d : Option Tmp} {t : TypeId} {p : String} {af : Array Edge} {g : Option (Nat × Bool)}
theorem LD.elA {ty : TypeId} {k : Nat} [Agg P ty k] {x : Operand} {b o j : Nat} {r : Frag} {cs : Array Value} {T : TypeId} {fr : Nat × Nat} {es : List (List Value)} {e : List Value} (hx : rev ρ x = some (.pointer (some ⟨b, o + j * k, none⟩)))
    (hr : r ∈ L) (hb : r b = some (.cells cs T fr)) (hc : ∀ j v, es.flatten[j]? = some v → cs[o + j]? = some v) (hl : ∀ e ∈ es, e.length = k) (he : es[j]? = some e) : LD P ρ L ⟨d, .load ty x, t, p, af, g⟩ (.agg e.toArray) := by
  have hek : e.length = k := hl e (List.mem_of_getElem? he)
  have key : ∀ i v, e[i]? = some v → cs[o + j * k + i]? = some v := fun i v hv => by
    have := hc _ _ (flatten_get hl he hv)
    rwa [← Nat.add_assoc] at this
  have hsz : o + j * k + k ≤ cs.size ∨ k = 0 := by
    rcases Nat.eq_zero_or_pos k with h0 | h0
    · exact .inr h0
    · left
      have := key (k - 1) _ (List.getElem?_eq_getElem (by omega))
      have := (Array.getElem?_eq_some_iff.1 this).1
      omega
  intro n a w ha hs
  have hw := mem_heap hs hr hb
  have hl' : (loadCells ⟨b, o + j * k, none⟩ e.length).run P w = .ok e.toArray w :=
    run_loadCells_list (P := P) w ⟨b, o + j * k, none⟩ e (fun i v hv => by
      rw [Addr.add_none, cell_of_row w b _ cs T fr hw]; exact key i v hv)
  rw [hek] at hl'
  have h1 := Agg.agg (P := P) (t := ty) (k := k) w
  have h2 := Agg.size (P := P) (t := ty) (k := k) w
  have hlv : (loadVar ty ⟨b, o + j * k, none⟩).run P w = .ok (.agg e.toArray) w := by
    simp only [loadVar, Sem.run_bind, h1, Result.andThen_ok, if_true, h2, hl']
    rfl
  simp [execOp, ha.eval hx, Instr.loadAt, Instr.sureAddr, hlv]
theorem LD.el1 {ty : TypeId} {k : Nat} [One P ty] {x : Operand} {b o j f : Nat} {r : Frag} {cs : Array Value} {T : TypeId} {fr : Nat × Nat} {es : List (List Value)} {e : List Value} {v : Value} (hx : rev ρ x = some (.pointer (some ⟨b, o + j * k + f, none⟩)))
    (hr : r ∈ L) (hb : r b = some (.cells cs T fr)) (hc : ∀ j v, es.flatten[j]? = some v → cs[o + j]? = some v) (hl : ∀ e ∈ es, e.length = k) (he : es[j]? = some e) (hv : e[f]? = some v) : LD P ρ L ⟨d, .load ty x, t, p, af, g⟩ v :=
  LD.load1f hx hr hb (by have := hc _ _ (flatten_get hl he hv); rwa [← Nat.add_assoc] at this)
end
end Go.SL
end
section
/- Drawn regions that change what they read ahead; slices that are made; copies. -/
namespace Go.SL
open Go.RowKit
variable {P : Program} {n : Nat}
section
variable {ops : Array Oper} {W : List Frag} {K : Nat → Nat} {Q : Post} {i : Nat} {l : List Nat} {o : Oper} {ρ : Regs}
theorem TC.drawW {id : Nat} {L : List Frag} (ks c : List Nat) (hm : P.follows .mixedOrders = true) (hchk : chk ops ks c = true) (h4 : Nat.blt (ks.foldl max 0) 4 = true)
    (h : TD P n ops [] L (kof ks) Q c ρ false []) : TC P n Q (.region id ops true) ρ L := TC.draw ks c hm hchk (fun j o _ hk => by
  exfalso
  have hmax : ∀ (l : List Nat) (a : Nat), a ≤ l.foldl max a ∧ ∀ x ∈ l, x ≤ l.foldl max a := by
    intro l
    induction l with
    | nil => intro a; exact ⟨Nat.le_refl _, fun _ h => (by cases h)⟩
    | cons y l ih =>
      intro a
      have := ih (max a y)
      refine ⟨by simp only [List.foldl_cons]; omega, fun x hx => ?_⟩
      simp only [List.foldl_cons]
      rcases List.mem_cons.1 hx with rfl | hx
      · omega
      · exact this.2 x hx
  have hj : kof ks j ∈ ks := by
    unfold kof at hk ⊢
    rw [List.getD_eq_getElem?_getD] at hk ⊢
    cases hg : ks[j]? with
    | none => simp [hg] at hk
    | some x => simp; exact List.mem_of_getElem? hg
  have := (hmax ks 0).2 _ hj
  simp [Nat.blt] at h4; omega) (.refl _) h
theorem TD.r {v : Value} {L : List Frag} (hi : ops[i]? = some o) (hK : K i = 1) (h : LD P ρ W o v) (hg : o.guard = none) (hd : dok n o.dst = true) (k : TD P n ops [] W K Q l (dpush o.dst v ρ) false L) : TD P n ops [] W K Q (i :: l) ρ false L := .rd hi hK h (.un hg) hd k
theorem TD.ry {v : Value} {j t : Nat} {want b : Bool} {L : List Frag} (hi : ops[i]? = some o) (hK : K i = 1) (h : LD P ρ W o v) (hb : b = want) (hg : o.guard = some (j, want)) (hj : (ops[j]?).bind (·.dst) = some t) (hv : rget ρ t = some (.bool b)) (hd : dok n o.dst = true) (k : TD P n ops [] W K Q l (dpush o.dst v ρ) false L) : TD P n ops [] W K Q (i :: l) ρ false L := .rd hi hK h (.yes hg hj hv hb) hd k
/-- the first change: what lay there, and what was laid -/
theorem TD.cwF {f : Nat} {args : List Value} {r : Frag} {j : Nat} {φ : Value → Frag → Prop} {L : List Frag} (hi : ops[i]? = some o) (hK : K i = 2) (hc : CL P ρ o f args) (hf : FnW P f args r φ) (hj : (L ++ W)[j]? = some r) (hw : Wants n ops ρ o true) (hd : dok n o.dst = true)
    (k : ∀ v r', φ v r' → TD P n ops [] W K Q l (dpush o.dst v ρ) true ((L ++ W).set j r')) : TD P n ops [] W K Q (i :: l) ρ false L :=
  TD.cl hi hK hc hf (F := (L ++ W).eraseIdx j) (show (W ++ L).Perm _ from (List.perm_append_comm (l₁ := W) (l₂ := L)).trans (perm_get hj)) hw hd fun v L' ⟨r', h1, h2⟩ => by subst h2; exact ⟨_, (perm_set r' (List.getElem?_eq_some_iff.1 hj).1).symm, k v r' h1⟩
/-- a change behind it -/
theorem TD.cwT {f : Nat} {args : List Value} {r : Frag} {j : Nat} {φ : Value → Frag → Prop} {L : List Frag} (hi : ops[i]? = some o) (hK : K i = 2) (hc : CL P ρ o f args) (hf : FnW P f args r φ) (hj : L[j]? = some r) (hw : Wants n ops ρ o true) (hd : dok n o.dst = true)
    (k : ∀ v r', φ v r' → TD P n ops [] W K Q l (dpush o.dst v ρ) true (L.set j r')) : TD P n ops [] W K Q (i :: l) ρ true L :=
  TD.cl hi hK hc hf (F := L.eraseIdx j) (perm_get hj) hw hd fun v L' ⟨r', h1, h2⟩ => by subst h2; exact ⟨_, (perm_set r' (List.getElem?_eq_some_iff.1 hj).1).symm, k v r' h1⟩
theorem TD.nilF {y : Code} {Q : Post} {L : List Frag} (k : TC P n Q y ρ (L ++ W)) : TD P n ops [] W K (Post.seq (TC P n Q y) Q) [] ρ false L := TD.nil (show TC P n Q y ρ (W ++ L) from TC.perm (List.perm_append_comm (l₁ := W) (l₂ := L)) k)
theorem TD.nilC {y : Code} {Q : Post} {L : List Frag} (k : TC P n Q y ρ L) : TD P n ops [] W K (Post.seq (TC P n Q y) Q) [] ρ true L := TD.nil k
end
section
variable {ρ : Regs} {L : List Frag} {d : Option Tmp} {t : TypeId} {p : String} {af : Array Edge} {g : Option (Nat × Bool)}
theorem NB.mkS {T e bytes : Nat} {z : Value} [hT : SliceT P T e 1] [hE : ElemT P e 1 bytes z] {x y : Operand} {m : Nat} (h1 : z.oneCell' = true) (hx : rev ρ x = some (.int .i64 (m : Int))) (hy : rev ρ y = some (.int .i64 (m : Int))) (hm : m ≤ 1000000 ∧ bytes ≤ 1000) :
    NB P ρ L ⟨d, .makeSlice T x y, t, p, af, g⟩ e (List.replicate m z).toArray (fun b => .slice (some ⟨b, 0, none⟩) m m) := fun n a w hr _ => by
  obtain ⟨i, i1, i2, i3, i4⟩ := hE.info
  have hb : (i.bytes : Int) * (m : Int) ≤ 281474976710656 := by
    rw [i3]
    have : bytes * m ≤ 1000 * 1000000 := Nat.mul_le_mul hm.2 hm.1
    omega
  have := run_makeSlice (P := P) w T e i z hT.und i1 i4 .i64 .i64 (m : Int) (m : Int) (by omega) (by omega) (by rw [i2]; simp; omega) hb (by omega)
  have hz : z.cells = #[z] := by cases z <;> first | rfl | cases h1
  have hmc : madeCells z.cells (((m : Int)).toNat * i.size) = (List.replicate m z).toArray := by
    rw [i2, hz]
    apply Array.ext'
    simp only [madeCells, Int.toNat_natCast, Nat.mul_one]
    apply List.ext_getElem
    · simp
    · intro j h1 h2; simp [Nat.mod_one]
  rw [hmc] at this
  simp only [execOp, hr.eval hx, hr.eval hy, Sem.run_bind, this, Result.andThen_ok]
  simp
end
theorem Ent.nof : Ent [] [nof] := fun _ _ h => h.nof
theorem Ent.drop (L : List Frag) : Ent L [] := fun _ F h => h.of_sublist (List.sublist_append_right L F)
theorem neq_dis {p b : Nat} {T U : TypeId} {cs ds : Array Value} {L : List Frag} (h : (blk p T cs :: blk b U ds :: L).Pairwise Disj) : p ≠ b := ne_of_disj ((List.pairwise_cons.1 h).1 _ (.head _))
theorem Ent.foldT (l X : List Frag) : Ent (l ++ X) [un l] := fun w F h => by
  have h1 : Sat w (l ++ (X ++ F)) := by rwa [← List.append_assoc]
  exact (Sat.of_sublist h1 (List.Sublist.append_left (List.sublist_append_right X F) l)).fold
section
variable {ρ : Regs} {L : List Frag} {d : Option Tmp} {t : TypeId} {p : String} {af : Array Edge} {g : Option (Nat × Bool)}
theorem eqi_snil {t e : TypeId} (hu : P.underlying t = some (.slice e)) (q : Option Addr) (m c : Nat) (d : Nat) (w : World) : (Op.equalIn (d + 1) t (.slice q m c) (.slice none 0 0)).run P w = .ok q.isNone w := by
  cases q <;> simp [Op.equalIn, run_underlying hu]
theorem LD.sNil {x y : Operand} {tx ty e : TypeId} {q : Option Addr} {m c : Nat} (hx : rev ρ x = some (.slice q m c)) (hy : rev ρ y = some (.slice none 0 0)) (hu : P.underlying tx = some (.slice e)) : LD P ρ L ⟨d, .binOp .eql tx x y ty, t, p, af, g⟩ (.bool q.isNone) :=
  LD.bin hx hy (fun x y w => by unfold eqGuard; simp) fun w => by
    have h := eqi_snil hu q m c 9999 w
    simp only [binOp]
    simp only [Op.equal, Op.maxDepth, Sem.run_bind, h, Result.andThen_ok]; rfl
theorem LD.sNilN {x y : Operand} {tx ty e : TypeId} {q : Option Addr} {m c : Nat} (hx : rev ρ x = some (.slice q m c)) (hy : rev ρ y = some (.slice none 0 0)) (hu : P.underlying tx = some (.slice e)) : LD P ρ L ⟨d, .binOp .neq tx x y ty, t, p, af, g⟩ (.bool (!q.isNone)) :=
  LD.bin hx hy (fun x y w => by unfold eqGuard; simp) fun w => by
    have h := eqi_snil hu q m c 9999 w
    simp only [binOp]
    simp only [Op.equal, Op.maxDepth, Sem.run_bind, h, Result.andThen_ok]; rfl
end
section
variable {ρ : Regs} {L : List Frag} {d : Option Tmp} {t : TypeId} {p : String} {af : Array Edge} {gd : Option (Nat × Bool)}
theorem EF.copy1 {T1 T2 e bytes : Nat} {z : Value} [hT : SliceT P T1 e 1] [hE : ElemT P e 1 bytes z] {x y : Operand} {g o sb so dl dc sl sc i : Nat} {T : TypeId} {cur cs : List Value} {r : Frag} {rc : Array Value} {rT : TypeId} {rf : Nat × Nat} (hx : rev ρ x = some (.slice (some ⟨g, o, none⟩) dl dc)) (hy : rev ρ y = some (.slice (some ⟨sb, so, none⟩) sl sc))
    (hi : L[i]? = some (blk g T cur.toArray)) (hr : r ∈ L) (hb : r sb = some (.cells rc rT rf)) (hn : cs.length = Nat.min sl dl) (hc : ∀ j v, cs[j]? = some v → rc[so + j]? = some v) (hfit : o + cs.length ≤ cur.length) (h1 : ∀ v ∈ cs, v.oneCell' = true) :
    EF P ρ L ⟨d, .call ⟨.builtin .copy, #[x, y], #[T1, T2]⟩, t, p, af, gd⟩ (.int .i64 cs.length) (L.set i (blk g T (cur.take o ++ cs ++ cur.drop (o + cs.length)).toArray)) := fun n a w ha hs => by
  obtain ⟨inf, i1, i2, i3, i4⟩ := hE.info
  have hw : w.heap[g]? = some (.cells cur.toArray T (0, 0)) := mem_heap hs (List.mem_of_getElem? hi) (blk_same g T _)
  have hrw := mem_heap hs hr hb
  have := run_copy_row (P := P) w T1 T2 t e g o dl dc ⟨sb, so, none⟩ sl sc cur.toArray T cs hT.und (by rw [i1]; simp [i2]) hw hn (fun j v hv => by
    rw [Addr.add_none, cell_of_row w sb _ rc rT rf hrw]; exact hc j v hv) (by simpa using hfit) h1
  refine ⟨_, .inl ?_, hs.rowAt hi _, Keep.setRow w _ _⟩
  simp only [execOp, resolve, invoke, builtin, Sem.run_bind, Sem.run_pure, Result.andThen_ok]
  have e2 : (#[x, y] : Array Operand).map a.eval = #[.slice (some ⟨g, o, none⟩) dl dc, .slice (some ⟨sb, so, none⟩) sl sc] := by simp [ha.eval hx, ha.eval hy]
  simp only [e2, this, Result.andThen_ok]
  simp [goInt]
end
section
variable {ρ : Regs} {L : List Frag} {d : Option Tmp} {t : TypeId} {p : String} {af : Array Edge} {g : Option (Nat × Bool)}
theorem LD.sliceArr {T e k n b o : Nat} [hs : ArrT P T n e k] {x : Operand} {lo hi : Option Operand} {l h : Int} (hx : rev ρ x = some (.pointer (some ⟨b, o, none⟩)))
    (hl : match lo with | none => l = 0 | some y => rev ρ y = some (.int .i64 l)) (hh : match hi with | none => h = n | some y => rev ρ y = some (.int .i64 h)) (h1 : 0 ≤ l ∧ l ≤ h ∧ h ≤ n) :
    LD P ρ L ⟨d, .slice T x lo hi none, t, p, af, g⟩ (.slice (some ⟨b, if (n : Int) = l then o else o + l.toNat * k, none⟩) (h.toNat - l.toNat) (n - l.toNat)) := fun m a w hr _ => by
  have key : ∀ (lv hv : Option Value), lv = lo.map a.eval → hv = hi.map a.eval → (Instr.sliceBounds false n n lv hv none).run P w = .ok (l.toNat, h.toNat, n) w := by
    rintro _ _ rfl rfl
    unfold Instr.sliceBounds
    cases hi with
    | none =>
      subst hh
      cases lo with
      | none => subst hl; simp
      | some y => simp [hr.eval hl, Instr.sliceBound, asIntOf, h1.1, h1.2.1]
    | some z =>
      have hz : 0 ≤ h ∧ h ≤ n := ⟨by omega, h1.2.2⟩
      cases lo with
      | none => subst hl; simp [hr.eval hh, Instr.sliceBound, asIntOf, hz]
      | some y =>
        simp [hr.eval hl, hr.eval hh, Instr.sliceBound, asIntOf, hz, h1.1]
        intro hm; omega
  have hc : (n = l.toNat) ↔ ((n : Int) = l) := by omega
  have k2 := key _ _ rfl rfl
  simp only [execOp, Instr.sliceAt, Option.map_none, hr.eval hx, Sem.run_bind, run_underlying hs.und, Result.andThen_ok, Instr.sureAddr, Sem.run_pure, k2, hs.size, hc, Addr.add_none]
  split <;> rfl
end
section
variable {ρ : Regs} {L : List Frag} {d : Option Tmp} {t : TypeId} {p : String} {af : Array Edge} {g : Option (Nat × Bool)}
theorem lrep_flat (z : List Value) : ∀ m : Nat, lrep m z = (List.replicate m z).flatten
  | 0 => rfl
  | m + 1 => by rw [lrep, lapp_eq, lrep_flat z m, List.replicate_succ, List.flatten_cons]
theorem NB.mkSk {T e k bytes : Nat} {zl : List Value} [hT : SliceT P T e k] [hE : ElemT P e k bytes (.agg zl.toArray)] {x y : Operand} {m : Nat} (hx : rev ρ x = some (.int .i64 (m : Int))) (hy : rev ρ y = some (.int .i64 (m : Int))) (hm : m ≤ 10000 ∧ bytes ≤ 10000 ∧ k ≤ 1000) :
    NB P ρ L ⟨d, .makeSlice T x y, t, p, af, g⟩ e ((List.replicate m zl).flatten).toArray (fun b => .slice (some ⟨b, 0, none⟩) m m) := fun n a w hr _ => by
  obtain ⟨i, i1, i2, i3, i4⟩ := hE.info
  have hk : zl.length = k := by have := hE.zlen; simpa [Value.cells] using this
  have hb : (i.bytes : Int) * (m : Int) ≤ 281474976710656 := by
    rw [i3]
    have : bytes * m ≤ 10000 * 10000 := Nat.mul_le_mul hm.2.1 hm.1
    omega
  have hmk : m * k ≤ 10000 * 1000 := Nat.mul_le_mul hm.1 hm.2.2
  have := run_makeSlice (P := P) w T e i (.agg zl.toArray) hT.und i1 i4 .i64 .i64 (m : Int) (m : Int) (by omega) (by omega) (by rw [i2]; simp; omega) hb (by omega)
  have hmc : madeCells (Value.agg zl.toArray).cells (((m : Int)).toNat * i.size) = ((List.replicate m zl).flatten).toArray := by
    rw [i2, ← lrep_flat, ← range_rep zl m, hk]
    apply Array.ext'
    simp [madeCells, Value.cells, hk]
  rw [hmc] at this
  simp only [execOp, hr.eval hx, hr.eval hy, Sem.run_bind, this, Result.andThen_ok]
  simp
/-- x[l:h:m] -/
theorem LD.sliceM {T e k n c : Nat} [hs : SliceT P T e k] {x y z u : Operand} {b o : Nat} {l h m : Int} (hx : rev ρ x = some (.slice (some ⟨b, o, none⟩) n c))
    (hl : rev ρ y = some (.int .i64 l)) (hh : rev ρ z = some (.int .i64 h)) (hm : rev ρ u = some (.int .i64 m)) (h1 : 0 ≤ l ∧ l ≤ h ∧ h ≤ m ∧ m ≤ c) (hne : l < m) :
    LD P ρ L ⟨d, .slice T x (some y) (some z) (some u), t, p, af, g⟩ (.slice (some ⟨b, o + l.toNat * k, none⟩) (h.toNat - l.toNat) (m.toNat - l.toNat)) := fun q a w hr _ => by
  have key : (Instr.sliceBounds true n c (some (a.eval y)) (some (a.eval z)) (some (a.eval u))).run P w = .ok (l.toNat, h.toNat, m.toNat) w := by
    unfold Instr.sliceBounds
    have g1 : 0 ≤ m ∧ m ≤ c := ⟨by omega, h1.2.2.2⟩
    have g2 : 0 ≤ h ∧ h ≤ ((m.toNat : Nat) : Int) := ⟨by omega, by omega⟩
    have g3 : 0 ≤ l ∧ l ≤ ((h.toNat : Nat) : Int) := ⟨by omega, by omega⟩
    simp only [hr.eval hl, hr.eval hh, hr.eval hm, Instr.sliceBound, asIntOf, Sem.run_bind, Sem.run_pure, Result.andThen_ok, g1, g2, g3, and_self, if_true]
  have hc : ¬ (m.toNat = l.toNat) := by omega
  simp only [execOp, Instr.sliceAt, Option.map_some, hr.eval hx, Sem.run_bind, run_underlying hs.und, Result.andThen_ok, Instr.slice, key, hs.size, if_neg hc]
  simp [Addr.add_none]
end
section
variable {ρ : Regs} {L : List Frag} {d : Option Tmp} {t : TypeId} {p : String} {af : Array Edge} {g : Option (Nat × Bool)}
theorem LD.ld1f {ty : TypeId} [One P ty] {x : Operand} {b o : Nat} {r : Frag} {l : List Value} {T : TypeId} {fr : Nat × Nat} {v : Value} (hx : rev ρ x = some (.pointer (some ⟨b, o, none⟩)))
    (hr : r ∈ L) (hb : r b = some (.cells l.toArray T fr)) (hc : lget l o = some v) : LD P ρ L ⟨d, .load ty x, t, p, af, g⟩ v := LD.load1f hx hr hb (by rw [lget_eq] at hc; simpa using hc)
theorem LD.ldAf {ty : TypeId} {k : Nat} [Agg P ty (k + 1)] {x : Operand} {b o : Nat} {r : Frag} {l vs : List Value} {T : TypeId} {fr : Nat × Nat} (hx : rev ρ x = some (.pointer (some ⟨b, o, none⟩)))
    (hr : r ∈ L) (hb : r b = some (.cells l.toArray T fr)) (hv : Fo (lsl o (k + 1) l) vs) (hk : Nat.beq (llen vs) (k + 1) = true) : LD P ρ L ⟨d, .load ty x, t, p, af, g⟩ (.agg vs.toArray) := by
  have hv := hv.eq
  have hk := Nat.eq_of_beq_eq_true hk
  rw [llen_eq] at hk
  rw [lsl_eq] at hv
  have hlen : o + (k + 1) ≤ l.length := by
    have : ((l.drop o).take (k + 1)).length = k + 1 := by rw [hv, hk]
    rw [List.length_take, List.length_drop] at this; omega
  refine LD.loadAf hx hr hb (by simpa using hlen) ?_
  rw [← hv]; simp
end
theorem LV.aggL {L : List Frag} {ty : TypeId} {k : Nat} [Agg P ty (k + 1)] {b o : Nat} {l vs : List Value} {T : TypeId} (hr : blk b T l.toArray ∈ L) (hv : Fo (lsl o (k + 1) l) vs) (hk : Nat.beq (llen vs) (k + 1) = true) : LV P L ty ⟨b, o, none⟩ (.agg vs.toArray) := by
  have hv := hv.eq
  have hk := Nat.eq_of_beq_eq_true hk
  rw [llen_eq] at hk
  rw [lsl_eq] at hv
  have hlen : o + (k + 1) ≤ l.length := by
    have : ((l.drop o).take (k + 1)).length = k + 1 := by rw [hv, hk]
    rw [List.length_take, List.length_drop] at this; omega
  refine LV.agg hr (blk_same ..) (by simpa using hlen) ?_
  rw [← hv]; simp
end Go.SL
end
section
/- Stores into one element of a row of elements. -/
namespace Go.SL
open Go.RowKit
variable {P : Program} {n : Nat}
theorem flatten_set {k : Nat} : ∀ {es : List (List Value)} {J f : Nat} {e : List Value} {v : Value}, (∀ e ∈ es, e.length = k) → es[J]? = some e → f < k → es.flatten.set (J * k + f) v = (es.set J (e.set f v)).flatten
  | [], J, f, e, v, _, h, _ => by simp at h
  | x :: es, 0, f, e, v, hl, h, hf => by
    simp at h; subst h
    have hx := hl x (List.mem_cons_self ..)
    simp only [Nat.zero_mul, Nat.zero_add, List.flatten_cons, List.set_cons_zero]
    rw [List.set_append_left _ _ (by omega)]
  | x :: es, J + 1, f, e, v, hl, h, hf => by
    have hx := hl x (List.mem_cons_self ..)
    have ih := flatten_set (J := J) (f := f) (e := e) (v := v) (fun y hy => hl y (List.mem_cons_of_mem _ hy)) (by simpa using h) hf
    simp only [List.flatten_cons, List.set_cons_succ]
    rw [List.set_append_right _ _ (by rw [hx, Nat.succ_mul]; omega), hx, ← ih]
    congr 2; rw [Nat.succ_mul]; omega
theorem flatten_put {k : Nat} : ∀ {es : List (List Value)} {J f : Nat} {e vs : List Value}, (∀ e ∈ es, e.length = k) → es[J]? = some e → f + vs.length ≤ k → es.flatten.take (J * k + f) ++ vs ++ es.flatten.drop (J * k + f + vs.length) = (es.set J (e.take f ++ vs ++ e.drop (f + vs.length))).flatten
  | [], J, f, e, vs, _, h, _ => by simp at h
  | x :: es, 0, f, e, vs, hl, h, hf => by
    simp at h; subst h
    have hx := hl x (List.mem_cons_self ..)
    simp only [Nat.zero_mul, Nat.zero_add, List.flatten_cons, List.set_cons_zero]
    rw [List.take_append_of_le_length (by omega), List.drop_append_of_le_length (by omega)]
    simp only [List.append_assoc]
  | x :: es, J + 1, f, e, vs, hl, h, hf => by
    have hx := hl x (List.mem_cons_self ..)
    have ih := flatten_put (J := J) (f := f) (e := e) (vs := vs) (fun y hy => hl y (List.mem_cons_of_mem _ hy)) (by simpa using h) hf
    simp only [List.flatten_cons, List.set_cons_succ]
    have e1 : (J + 1) * k + f = x.length + (J * k + f) := by rw [hx, Nat.succ_mul]; omega
    have e2 : (J + 1) * k + f + vs.length = x.length + (J * k + f + vs.length) := by omega
    rw [e1, Nat.add_assoc x.length, List.take_length_add_append, List.drop_length_add_append, ← ih]
    simp only [List.append_assoc]
section
variable {ρ : Regs} {L : List Frag} {d : Option Tmp} {t : TypeId} {p : String} {af : Array Edge} {g : Option (Nat × Bool)}
theorem EF.el1 {ty k : Nat} [One P ty] {x y : Operand} {b off J f i : Nat} {T : TypeId} {es : List (List Value)} {e : List Value} {v : Value} (hx : rev ρ x = some (.pointer (some ⟨b, off, none⟩))) (hy : rev ρ y = some v) (hv : v.oneCell' = true) (hoff : off = J * k + f)
    (hl : ∀ e ∈ es, e.length = k) (he : es[J]? = some e) (hf : f < k) (hi : L[i]? = some (blk b T es.flatten.toArray)) : EF P ρ L ⟨d, .store ty x y, t, p, af, g⟩ undef (L.set i (blk b T ((es.set J (e.set f v)).flatten).toArray)) := by
  subst hoff
  have hlt : J * k + f < es.flatten.length := by
    rw [flatten_len hl]
    have : J + 1 ≤ es.length := (List.getElem?_eq_some_iff.1 he).1
    have := Nat.mul_le_mul_right k this
    rw [Nat.succ_mul] at this; omega
  have := EF.store1 (P := P) (ty := ty) (d := d) (t := t) (p := p) (af := af) (g := g) hx hy hv hi (by simpa using hlt)
  rw [← flatten_set hl he hf]
  simpa using this
theorem EF.elA {ty k m : Nat} [Agg P ty m] {x y : Operand} {b off J f i : Nat} {T : TypeId} {es : List (List Value)} {e vs : List Value} (hx : rev ρ x = some (.pointer (some ⟨b, off, none⟩))) (hy : rev ρ y = some (.agg vs.toArray)) (hv : ones vs = true) (hm : Nat.beq (llen vs) m = true) (hoff : off = J * k + f)
    (hl : ∀ e ∈ es, e.length = k) (he : es[J]? = some e) (hf : f + m ≤ k) (hi : L[i]? = some (blk b T es.flatten.toArray)) : EF P ρ L ⟨d, .store ty x y, t, p, af, g⟩ undef (L.set i (blk b T ((es.set J (e.take f ++ vs ++ e.drop (f + vs.length))).flatten).toArray)) := by
  subst hoff
  have hm := Nat.eq_of_beq_eq_true hm
  rw [llen_eq] at hm
  have hle : J * k + f + m ≤ es.flatten.length := by
    rw [flatten_len hl]
    have : J + 1 ≤ es.length := (List.getElem?_eq_some_iff.1 he).1
    have := Nat.mul_le_mul_right k this
    rw [Nat.succ_mul] at this; omega
  have := EF.storeA (P := P) (ty := ty) (d := d) (t := t) (p := p) (af := af) (g := g) (vs := vs.toArray) hx hy hi (by simpa using hm) (by simpa using hle) (Array.all_eq_true_iff_forall_mem.2 (fun v hv' => ones_spec hv v (by simpa using hv')))
  rw [← flatten_put hl he (by omega)]
  simpa [splice] using this
end
theorem TL.unfold {ops : Array Oper} {Q : Post} {l : List Oper} {ρ : Regs} {m F : List Frag} (hd : m.Pairwise Disj) (k : TL P n ops Q l ρ (m ++ F)) : TL P n ops Q l ρ (un m :: F) := fun a w hr hs => k a w hr (hs.unfold hd)
theorem LD.elAo {ρ : Regs} {L : List Frag} {d : Option Tmp} {t : TypeId} {p : String} {af : Array Edge} {g : Option (Nat × Bool)} {ty : TypeId} {k : Nat} [Agg P ty k] {x : Operand} {b o off j : Nat} {r : Frag} {cs : Array Value} {T : TypeId} {fr : Nat × Nat} {es : List (List Value)} {e : List Value} (hx : rev ρ x = some (.pointer (some ⟨b, off, none⟩)))
    (hoff : off = o + j * k) (hr : r ∈ L) (hb : r b = some (.cells cs T fr)) (hc : ∀ j v, es.flatten[j]? = some v → cs[o + j]? = some v) (hl : ∀ e ∈ es, e.length = k) (he : es[j]? = some e) : LD P ρ L ⟨d, .load ty x, t, p, af, g⟩ (.agg e.toArray) := by
  subst hoff; exact LD.elA hx hr hb hc hl he
end Go.SL
end
section
/- Equality of structs and arrays, cell by cell. -/
namespace Go.SL
open Go.RowKit
variable {P : Program}

/-- a cell that is a number, or a truth value -/
def CellOk : Bool → Value → Prop
  | true, v => ∃ i, v = .int .i64 i
  | false, v => ∃ b, v = .bool b
def Shp : List Bool → List Value → Prop
  | [], l => l = []
  | k :: s, l => ∃ v u, l = v :: u ∧ CellOk k v ∧ Shp s u
theorem Shp.len : ∀ {s : List Bool} {l : List Value}, Shp s l → l.length = s.length
  | [], _, h => by subst h; rfl
  | _ :: s, _, ⟨v, u, h1, _, h3⟩ => by subst h1; simp [h3.len]
theorem Shp.split : ∀ {s1 s2 : List Bool} {l : List Value}, Shp (s1 ++ s2) l → ∃ l1 l2, l = l1 ++ l2 ∧ Shp s1 l1 ∧ Shp s2 l2
  | [], s2, l, h => ⟨[], l, rfl, rfl, h⟩
  | k :: s1, s2, l, ⟨v, u, h1, h2, h3⟩ => by
    obtain ⟨l1, l2, h4, h5, h6⟩ := Shp.split h3
    exact ⟨v :: l1, l2, by rw [h1, h4]; rfl, ⟨v, l1, rfl, h2, h5⟩, h6⟩
def veq : Value → Value → Bool
  | .int _ a, .int _ b => decide (a = b)
  | .bool a, .bool b => a == b
  | _, _ => false
/-- cells that are the same -/
def ceq : List Value → List Value → Bool
  | [], [] => true
  | x :: xs, y :: ys => veq x y && ceq xs ys
  | _, _ => false
theorem veq_iff {k : Bool} {x y : Value} (hx : CellOk k x) (hy : CellOk k y) : veq x y = true ↔ x = y := by
  cases k
  · obtain ⟨a, rfl⟩ := hx; obtain ⟨b, rfl⟩ := hy; simp [veq]
  · obtain ⟨a, rfl⟩ := hx; obtain ⟨b, rfl⟩ := hy; simp [veq]
theorem ceq_iff : ∀ {s : List Bool} {xs ys : List Value}, Shp s xs → Shp s ys → (ceq xs ys = true ↔ xs = ys)
  | [], _, _, h1, h2 => by simp only [Shp] at h1 h2; subst h1; subst h2; simp [ceq]
  | k :: s, _, _, ⟨x, xs, e1, h1, h2⟩, ⟨y, ys, e2, h3, h4⟩ => by
    subst e1; subst e2
    simp only [ceq, Bool.and_eq_true, veq_iff h1 h3, ceq_iff h2 h4, List.cons.injEq]
theorem ceq_app : ∀ {x y xs ys : List Value}, x.length = y.length → ceq (x ++ xs) (y ++ ys) = (ceq x y && ceq xs ys)
  | [], [], _, _, _ => by simp [ceq]
  | a :: x, b :: y, xs, ys, h => by
    have := ceq_app (x := x) (y := y) (xs := xs) (ys := ys) (by simpa using h)
    simp [ceq, this, Bool.and_assoc]
class Eq1 (P : Program) (t : Nat) (k : outParam Bool) : Prop where
  und : (k = true ∧ ∃ q, P.underlying t = some (.int q)) ∨ (k = false ∧ P.underlying t = some .bool)
theorem Eq1.run {t : Nat} {k : Bool} (h : Eq1 P t k) {x y : Value} (hx : CellOk k x) (hy : CellOk k y) (d : Nat) (w : World) : (Op.equalIn (d + 1) t x y).run P w = .ok (veq x y) w := by
  rcases h.und with ⟨rfl, q, hu⟩ | ⟨rfl, hu⟩
  · obtain ⟨i, rfl⟩ := hx
    obtain ⟨j, rfl⟩ := hy
    rw [run_equalIn_int w d t _ _ _ _ hu]; rfl
  · obtain ⟨i, rfl⟩ := hx
    obtain ⟨j, rfl⟩ := hy
    rw [run_equalIn_bool' w d t _ _ hu]; rfl
class EqA (P : Program) (t : Nat) (dp : outParam Nat) (sh : outParam (List Bool)) : Prop where
  run : ∀ d w xs ys, dp ≤ d → Shp sh xs → Shp sh ys → (Op.equalIn d t (.agg xs.toArray) (.agg ys.toArray)).run P w = .ok (ceq xs ys) w
inductive FEq (P : Program) (dp : Nat) : List Field → Nat → List Bool → Prop
  | nil {o : Nat} : FEq P dp [] o []
  | one {f : Field} {fs : List Field} {o : Nat} {k : Bool} {s : List Bool} (hn : f.name ≠ "_") (ho : f.offset = o) (h1 : One P f.type) (he : Eq1 P f.type k) (r : FEq P dp fs (o + 1) s) : FEq P dp (f :: fs) o (k :: s)
  | agg {f : Field} {fs : List Field} {o n d1 : Nat} {s1 s : List Bool} (hn : f.name ≠ "_") (ho : f.offset = o) (h1 : Agg P f.type n) (he : EqA P f.type d1 s1) (hd : d1 ≤ dp) (hl : s1.length = n) (r : FEq P dp fs (o + n) s) : FEq P dp (f :: fs) o (s1 ++ s)
theorem part1 {t : Nat} [h : One P t] {px xs : List Value} {x : Value} (w : World) : (part t (px ++ x :: xs).toArray px.length).run P w = .ok x w := by
  simp [part, h.agg]
theorem partA {t n : Nat} [h : Agg P t n] {px xs ys : List Value} (hn : xs.length = n) (w : World) : (part t (px ++ (xs ++ ys)).toArray px.length).run P w = .ok (.agg xs.toArray) w := by
  subst hn
  simp only [part, Sem.run_bind, h.agg, Result.andThen_ok, if_true, h.size, Sem.run_pure]
  congr 2
  simp
theorem FEq.run {dp : Nat} : ∀ {fs : List Field} {o : Nat} {s : List Bool}, FEq P dp fs o s → ∀ d, dp + 1 ≤ d → ∀ (px py xs ys : List Value) (w : World), px.length = o → py.length = o → Shp s xs → Shp s ys →
    (Op.eqFields d (px ++ xs).toArray (py ++ ys).toArray fs).run P w = .ok (ceq xs ys) w := by
  intro fs o s h
  induction h with
  | nil => intro d _ px py xs ys w _ _ h1 h2; simp only [Shp] at h1 h2; subst h1; subst h2; simp [Op.eqFields, ceq]
  | @one f fs o k s hn ho h1 he r ih =>
    intro d hd px py xs ys w hp hq hx hy
    obtain ⟨x, xs, rfl, hx1, hx2⟩ := hx
    obtain ⟨y, ys, rfl, hy1, hy2⟩ := hy
    obtain ⟨d, rfl⟩ : ∃ e, d = e + 1 := ⟨d - 1, by omega⟩
    have e1 := part1 (P := P) (t := f.type) (px := px) (x := x) (xs := xs) w
    have e2 := part1 (P := P) (t := f.type) (px := py) (x := y) (xs := ys) w
    rw [hp, ← ho] at e1
    rw [hq, ← ho] at e2
    simp only [Op.eqFields, ne_eq, hn, not_false_eq_true, if_true, Sem.run_bind, e1, e2, Result.andThen_ok, he.run hx1 hy1 d w]
    have := ih (d + 1) hd (px ++ [x]) (py ++ [y]) xs ys w (by simp [hp]) (by simp [hq]) hx2 hy2
    simp only [List.append_assoc, List.singleton_append] at this
    cases hv : veq x y <;> simp [ceq, hv, this]
  | @agg f fs o n d1 s1 s hn ho h1 he hd1 hl r ih =>
    intro d hd px py xs ys w hp hq hx hy
    obtain ⟨x, xs, rfl, hx1, hx2⟩ := hx.split
    obtain ⟨y, ys, rfl, hy1, hy2⟩ := hy.split
    have lx := hx1.len
    have ly := hy1.len
    have e1 := partA (P := P) (t := f.type) (px := px) (xs := x) (ys := xs) (by omega) w
    have e2 := partA (P := P) (t := f.type) (px := py) (xs := y) (ys := ys) (by omega) w
    rw [hp, ← ho] at e1
    rw [hq, ← ho] at e2
    simp only [Op.eqFields, ne_eq, hn, not_false_eq_true, if_true, Sem.run_bind, e1, e2, Result.andThen_ok, he.run d w x y (by omega) hx1 hy1]
    have := ih d hd (px ++ x) (py ++ y) xs ys w (by simp [hp]; omega) (by simp [hq]; omega) hx2 hy2
    simp only [List.append_assoc] at this
    rw [ceq_app (by omega)]
    cases hv : ceq x y <;> simp [this]
theorem EqA.struct {t dp : Nat} {fs : Array Field} {s : List Bool} (hu : P.underlying t = some (.struct fs)) (hs : P.stoodInHeld t = false) (h : FEq P dp fs.toList 0 s) : EqA P t (dp + 2) s := ⟨fun d w xs ys hd hx hy => by
  obtain ⟨d, rfl⟩ : ∃ e, d = e + 1 := ⟨d - 1, by omega⟩
  have hf : P.fieldsOf t = fs := by simp [Program.fieldsOf, hu]
  rw [run_equalIn_struct w d t _ _ (by rw [hf]; exact hu) hs, hf]
  exact h.run d (by omega) [] [] xs ys w rfl rfl hx hy⟩
theorem eqItems_run {e c : Nat} {k : Bool} [h1 : One P e] [he : Eq1 P e k] (w : World) (d : Nat) : ∀ (n i : Nat) (px py xs ys : List Value), px.length = i → py.length = i → Shp (List.replicate n k) xs → Shp (List.replicate n k) ys →
    (Op.eqItems (d + 1) e 1 (px ++ xs).toArray (py ++ ys).toArray (List.range' i n)).run P w = .ok (ceq xs ys) w
  | 0, i, px, py, xs, ys, _, _, h1, h2 => by simp only [List.replicate_zero, Shp] at h1 h2; subst h1; subst h2; simp [Op.eqItems, ceq]
  | n + 1, i, px, py, xs, ys, hp, hq, hx, hy => by
    obtain ⟨x, xs, rfl, hx1, hx2⟩ := hx
    obtain ⟨y, ys, rfl, hy1, hy2⟩ := hy
    have e1 := part1 (P := P) (t := e) (px := px) (x := x) (xs := xs) w
    have e2 := part1 (P := P) (t := e) (px := py) (x := y) (xs := ys) w
    rw [hp] at e1
    rw [hq] at e2
    simp only [List.range'_succ, Op.eqItems, Nat.mul_one, Sem.run_bind, e1, e2, Result.andThen_ok, he.run hx1 hy1 d w]
    have := eqItems_run (e := e) (c := c) w d n (i + 1) (px ++ [x]) (py ++ [y]) xs ys (by simp [hp]) (by simp [hq]) hx2 hy2
    simp only [List.append_assoc, List.singleton_append] at this
    cases hv : veq x y <;> simp [ceq, hv, this]
theorem EqA.array {t e n : Nat} {k : Bool} {i : TypeInfo} (hu : P.underlying t = some (.array n e)) (hi : P.info? e = some i) (hc : P.cellsOf e = 1) [h1 : One P e] [he : Eq1 P e k] : EqA P t 2 (List.replicate n k) := ⟨fun d w xs ys hd hx hy => by
  obtain ⟨d, rfl⟩ : ∃ e, d = e + 2 := ⟨d - 2, by omega⟩
  rw [show d + 2 = (d + 1) + 1 from rfl, run_equalIn_array w (d + 1) _ _ hu hi, hc, List.range_eq_range']
  exact eqItems_run (e := e) (c := 1) w d n 0 [] [] xs ys rfl rfl hx hy⟩
section
variable {ρ : Regs} {L : List Frag} {d : Option Tmp} {t : TypeId} {p : String} {af : Array Edge} {g : Option (Nat × Bool)}
theorem LD.eqS {x y : Operand} {tx ty dp : Nat} {s : List Bool} {xs ys : List Value} [h : EqA P tx dp s] (hx : rev ρ x = some (.agg xs.toArray)) (hy : rev ρ y = some (.agg ys.toArray)) (hg : P.eqGuardType P.depth tx = false) (hd : Nat.ble dp 10000 = true) (h1 : Shp s xs) (h2 : Shp s ys) :
    LD P ρ L ⟨d, .binOp .eql tx x y ty, t, p, af, g⟩ (.bool (ceq xs ys)) := LD.bin hx hy (fun _ _ w => run_eqGuard_agg w _ _ _ _ _ _ hg) fun w => by
  rw [run_eql_struct, h.run 10000 w xs ys (Nat.le_of_ble_eq_true hd) h1 h2]; rfl
theorem LD.neqS {x y : Operand} {tx ty dp : Nat} {s : List Bool} {xs ys : List Value} [h : EqA P tx dp s] (hx : rev ρ x = some (.agg xs.toArray)) (hy : rev ρ y = some (.agg ys.toArray)) (hg : P.eqGuardType P.depth tx = false) (hd : Nat.ble dp 10000 = true) (h1 : Shp s xs) (h2 : Shp s ys) :
    LD P ρ L ⟨d, .binOp .neq tx x y ty, t, p, af, g⟩ (.bool (!ceq xs ys)) := LD.bin hx hy (fun _ _ w => run_eqGuard_agg w _ _ _ _ _ _ hg) fun w => by
  rw [run_neq_struct, h.run 10000 w xs ys (Nat.le_of_ble_eq_true hd) h1 h2]; rfl
/-! ### interfaces -/
class NotIface (P : Program) (t : Nat) : Prop where
  run : ∀ v w, (Instr.makeInterface t v).run P w = .ok (.iface t v) w
theorem LD.mkI {x : Operand} {T : Nat} {v : Value} [h : NotIface P T] (hx : rev ρ x = some v) : LD P ρ L ⟨d, .makeInterface T x, t, p, af, g⟩ (.iface T v) := fun n a w hr _ => by simp [execOp, hr.eval hx, h.run]
/-- a method of a type, by value -/
class MethAt (P : Program) (t : Nat) (name : String) (f : outParam Nat) : Prop where
  run : ∀ v w, (do method ((← program).types.size + Made.depth) t v name : Sem (FuncId × Value)).run P w = .ok (f, v) w
end
end Go.SL
end
section
/- Maps from numbers. -/
namespace Go.SL
open Go.RowKit
variable {P : Program}

/-- all keys are numbers -/
def IntKeys (es : List MapEntry) : Prop := ∀ e ∈ es, ∃ i, e.key = .int .i64 i
def keyIs (k : Int) (e : MapEntry) : Bool := match e.key with | .int _ i => decide (i = k) | _ => false
def mfind (es : List MapEntry) (k : Int) : Option (Nat × Value) := (es.findIdx? (keyIs k)).bind fun i => (es[i]?).map fun e => (i, e.val)
/-- what a map holds -/
def mapv (es : List MapEntry) (k : Int) : Option Value := (es.find? (keyIs k)).map (·.val)
theorem mapv_nil (k : Int) : mapv [] k = none := rfl
theorem IntKeys.nil : IntKeys [] := fun _ h => (by cases h)
class MapT (P : Program) (t : Nat) (e : outParam Nat) : Prop where
  key : ∃ k q, P.underlying t = some (.map k e) ∧ P.underlying k = some (.int q)

theorem findNow_int {q : IntKind} (k : Int) : ∀ (es : List MapEntry) (j : Nat), IntKeys es → Instr.findNow (.int q) (.int .i64 k) es j = some (match es.findIdx? (keyIs k) with | some i => (es[i]?).map fun e => (j + i, e.val) | none => none)
  | [], j, _ => by simp [Instr.findNow]
  | e :: es, j, h => by
    obtain ⟨i, hi⟩ := h e (List.mem_cons_self ..)
    have ih := findNow_int (q := q) k es (j + 1) (fun x hx => h x (List.mem_cons_of_mem _ hx))
    have hb : Instr.sameNow (.int q) (.int .i64 k) e.key = some (decide (k = i)) := by rw [hi]; simp [Instr.sameNow]; rfl
    unfold Instr.findNow
    rw [hb]
    by_cases hk : k = i
    · subst hk
      simp [List.findIdx?_cons, keyIs, hi]
    · have hk' : ¬ i = k := fun e => hk e.symm
      have hf : keyIs k e = false := by simp [keyIs, hi, hk']
      simp only [hk, decide_false]
      rw [ih, List.findIdx?_cons, hf]
      cases hq : es.findIdx? (keyIs k) with
      | none => simp
      | some m =>
        have e1 : j + 1 + m = j + (m + 1) := by omega
        simp [e1]
theorem mapv_find {es : List MapEntry} {k : Int} : mapv es k = (match es.findIdx? (keyIs k) with | some i => (es[i]?).map (·.val) | none => none) := by
  unfold mapv
  cases hf : es.findIdx? (keyIs k) with
  | none => rw [List.findIdx?_eq_none_iff] at hf; rw [List.find?_eq_none.2 (by simpa using hf)]; rfl
  | some i =>
    rw [List.findIdx?_eq_some_iff_getElem] at hf
    obtain ⟨h1, h2, h3⟩ := hf
    have : es.find? (keyIs k) = some es[i] := by
      rw [List.find?_eq_some_iff_getElem]
      exact ⟨h2, i, h1, rfl, fun j hj => by simpa using h3 j hj⟩
    rw [this]; simp [h1]
theorem run_findKey {w : World} {kt : Nat} {q : IntKind} (hk : P.underlying kt = some (.int q)) {es : List MapEntry} (h : IntKeys es) (k : Int) : (Instr.findKey kt (.int .i64 k) es).run P w = .ok (match es.findIdx? (keyIs k) with | some i => (es[i]?).map fun e => (i, e.val) | none => none) w := by
  simp only [Instr.findKey, Sem.run_bind, run_underlying hk, Result.andThen_ok, findNow_int k es 0 h, Nat.zero_add]
  rfl
theorem run_checkKey {w : World} {kt : Nat} {q : IntKind} (hk : P.underlying kt = some (.int q)) (e : Bool) (k : Int) : (Instr.checkKey e 10000 kt (.int .i64 k)).run P w = .ok () w := by
  rw [Instr.checkKey, Sem.run_bind, run_underlying hk]; rfl
theorem run_getMap {w : World} {r : Nat} {es : Array MapEntry} {c : Nat} (h : w.heap[r]? = some (.map es c)) : (getObj r).run P w = .ok (.map es c) w := by
  simp [getObj, Sem.run, h]
theorem zero_of {e : Nat} {z : Array Value} [hz : ZeroV P e z] (w : World) : ∃ v, (zeroValue e).run P w = .ok v w ∧ v.cells = z := hz.run w
class ZeroOf (P : Program) (t : Nat) (v : outParam Value) : Prop where
  run : ∀ w, (zeroValue t).run P w = .ok v w
section
variable {ρ : Regs} {L : List Frag} {d : Option Tmp} {t : TypeId} {p : String} {af : Array Edge} {g : Option (Nat × Bool)}
def Mp (b : Nat) (es : List MapEntry) (c : Nat) : Frag := obj b (.map es.toArray c)
theorem LD.lookup {T e : Nat} [hT : MapT P T e] {z : Value} [hz : ZeroOf P e z] {x y : Operand} {b c : Nat} {es : List MapEntry} {k : Int} {r : Frag} (hx : rev ρ x = some (.map (some b))) (hy : rev ρ y = some (.int .i64 k)) (hr : r ∈ L) (hb : r b = some (.map es.toArray c)) (hi : IntKeys es) (ok : Bool) :
    LD P ρ L ⟨d, .lookup T x y ok, t, p, af, g⟩ (bif ok then .tuple #[(mapv es k).getD z, .bool (mapv es k).isSome] else (mapv es k).getD z) := fun n a w ha hs => by
  obtain ⟨kt, q, hm, hk⟩ := hT.key
  have hw := mem_heap hs hr hb
  simp only [execOp, ha.eval hx, ha.eval hy, Instr.lookup, Sem.run_bind, run_underlying hm, Result.andThen_ok, run_getMap hw, run_checkKey hk, run_findKey hk hi, Sem.run_pure]
  rw [mapv_find]
  cases hf : es.findIdx? (keyIs k) with
  | none => simp [hz.run]; try (cases ok <;> rfl)
  | some i =>
    have h1 := (List.findIdx?_eq_some_iff_getElem.1 hf).1
    simp [h1]; try (cases ok <;> rfl)
theorem LD.lookupNil {T e : Nat} [hT : MapT P T e] {z : Value} [hz : ZeroOf P e z] {x y : Operand} {k : Int} (hx : rev ρ x = some (.map none)) (hy : rev ρ y = some (.int .i64 k)) (ok : Bool) :
    LD P ρ L ⟨d, .lookup T x y ok, t, p, af, g⟩ (bif ok then .tuple #[z, .bool false] else z) := fun n a w ha hs => by
  obtain ⟨kt, q, hm, hk⟩ := hT.key
  simp only [execOp, ha.eval hx, ha.eval hy, Instr.lookup, Sem.run_bind, run_underlying hm, Result.andThen_ok, run_checkKey hk, Sem.run_pure]
  have := run_findKey (P := P) (w := w) hk IntKeys.nil k
  simp only [this, Result.andThen_ok]
  simp [hz.run]; try (cases ok <;> rfl)
theorem EX.mkMap {T : Nat} : EX P ρ L ⟨d, .makeMap T none, t, p, af, g⟩ (fun v L' => ∃ b, v = .map (some b) ∧ L' = Mp b [] 0 :: L) := fun n a w ha hs => by
  refine ⟨.map (some w.heap.size), _, w.alloc (.map #[] 0), ?_, ⟨_, rfl, rfl⟩, hs.alloc _, Keep.alloc w _⟩
  simp [execOp, Instr.makeMap, newObj, Sem.run]
end
/-- a map behind an update -/
def mupd (es : List MapEntry) (c : Nat) (k : Int) (v : Value) : List MapEntry × Nat :=
  match es.findIdx? (keyIs k) with
  | some i => (es.modify i (fun e => { e with key := .int .i64 k, val := v }), c)
  | none => (es ++ [{ key := .int .i64 k, val := v, born := c }], c + 1)
theorem mupd_keys {es : List MapEntry} (h : IntKeys es) (c : Nat) (k : Int) (v : Value) : IntKeys (mupd es c k v).1 := by
  unfold mupd
  cases hf : es.findIdx? (keyIs k) with
  | none =>
    intro e he
    rcases List.mem_append.1 he with he | he
    · exact h e he
    · rw [List.mem_singleton] at he; subst he; exact ⟨k, rfl⟩
  | some i =>
    intro e he
    simp only at he
    obtain ⟨j, hj⟩ := List.mem_iff_getElem?.1 he
    rw [List.getElem?_modify] at hj
    split at hj
    · cases hq : es[j]? with
      | none => simp [hq] at hj
      | some x => simp [hq] at hj; subst hj; exact ⟨k, rfl⟩
    · simp at hj; exact h e (List.mem_of_getElem? hj)
theorem mupd_get {es : List MapEntry} (c : Nat) (k : Int) (v : Value) (j : Int) : mapv (mupd es c k v).1 j = if j = k then some v else mapv es j := by
  unfold mupd
  cases hf : es.findIdx? (keyIs k) with
  | none =>
    simp only [mapv, List.find?_append]
    by_cases hjk : j = k
    · subst hjk
      rw [List.findIdx?_eq_none_iff] at hf
      rw [List.find?_eq_none.2 (by simpa using hf)]
      simp [keyIs]
    · have : keyIs j { key := .int .i64 k, val := v, born := c } = false := by simp [keyIs]; omega
      simp [hjk, List.find?_cons, this]
  | some i =>
    rw [List.findIdx?_eq_some_iff_getElem] at hf
    obtain ⟨h1, h2, h3⟩ := hf
    have hkey : ∀ x, keyIs x es[i] = decide (k = x) := by
      intro x
      unfold keyIs at h2 ⊢
      split at h2
      · rename_i q m hm; simp at h2; subst h2; simp [hm]
      · cases h2
    have key : ∀ (l : List MapEntry) (i : Nat) (h1 : i < l.length), keyIs k l[i] = true → (∀ m (hm : m < i), keyIs k (l[m]'(Nat.lt_trans hm h1)) = false) →
        (l.modify i (fun e => { e with key := .int .i64 k, val := v })).find? (keyIs j) = if j = k then some { l[i] with key := .int .i64 k, val := v } else l.find? (keyIs j) := by
      intro l
      induction l with
      | nil => intro i h1; simp at h1
      | cons x l ih =>
        intro i h1 h2 h3
        cases i with
        | zero =>
          simp only [List.modify_zero_cons, List.find?_cons, List.getElem_cons_zero]
          by_cases hjk : j = k
          · subst hjk; simp [keyIs]
          · have e1 : keyIs j { x with key := .int .i64 k, val := v } = false := by simp [keyIs]; omega
            have e2 : keyIs j x = false := by
              simp only [List.getElem_cons_zero] at h2
              unfold keyIs at h2 ⊢
              split at h2
              · rename_i q m hm; simp at h2; subst h2; simp [hm]; omega
              · cases h2
            simp [e1, e2, hjk]
        | succ i =>
          have := ih i (by simpa using h1) (by simpa using h2) (fun m hm => by simpa using h3 (m + 1) (by omega))
          simp only [List.modify_succ_cons, List.find?_cons, List.getElem_cons_succ]
          have hx : keyIs k x = false := by simpa using h3 0 (by omega)
          by_cases hjk : j = k
          · subst hjk; simp only [hx]; rw [this]; simp
          · rw [this]; simp [hjk]
    simp only [mapv]
    rw [key es i h1 h2 (fun m hm => by simpa using h3 m hm)]
    split <;> rfl
theorem run_setMap {w : World} {r : Nat} {es : Array MapEntry} {c : Nat} (h : w.heap[r]? = some (.map es c)) (o : Obj) : (setObj r o).run P w = .ok () { w with heap := w.heap.setIfInBounds r o } := by
  simp [setObj, Sem.run, h]
theorem Sat.mapAt {w : World} {L : List Frag} (hs : Sat w L) {i b : Nat} {o o' : Obj} (hi : L[i]? = some (obj b o)) : Sat { w with heap := w.heap.setIfInBounds b o' } (L.set i (obj b o')) := by
  have hw : w.heap[b]? = some o := mem_heap hs (List.mem_of_getElem? hi) (obj_same b o)
  have hlt : b < w.heap.size := (Array.getElem?_eq_some_iff.1 hw).1
  have h1 := hs.perm (perm_get hi)
  have h2 : Sat { w with heap := w.heap.setIfInBounds b o' } (obj b o' :: L.eraseIdx i) := Sat.setObj h1 (by simp [hlt]) (fun x hx => by simp [Array.getElem?_setIfInBounds, Ne.symm hx])
  exact Sat.perm h2 (perm_set _ (List.getElem?_eq_some_iff.1 hi).1).symm
section
variable {ρ : Regs} {L : List Frag} {d : Option Tmp} {t : TypeId} {p : String} {af : Array Edge} {g : Option (Nat × Bool)}
theorem EF.mapUp {T e : Nat} [hT : MapT P T e] {x y z : Operand} {b c i : Nat} {es : List MapEntry} {k : Int} {v : Value} (hx : rev ρ x = some (.map (some b))) (hy : rev ρ y = some (.int .i64 k)) (hz : rev ρ z = some v) (hi : L[i]? = some (Mp b es c)) (hk : IntKeys es) :
    EF P ρ L ⟨d, .mapUpdate T x y z, t, p, af, g⟩ undef (L.set i (Mp b (mupd es c k v).1 (mupd es c k v).2)) := fun n a w ha hs => by
  obtain ⟨kt, q, hm, hkt⟩ := hT.key
  have hw : w.heap[b]? = some (.map es.toArray c) := mem_heap hs (List.mem_of_getElem? hi) (obj_same b _)
  refine ⟨{ w with heap := w.heap.setIfInBounds b (.map (mupd es c k v).1.toArray (mupd es c k v).2) }, .inr ⟨?_, rfl⟩, hs.mapAt hi, ⟨rfl, rfl, rfl, by simp⟩⟩
  simp only [execOp, ha.eval hx, ha.eval hy, ha.eval hz, Instr.mapUpdate, Sem.run_bind, run_underlying hm, Result.andThen_ok, run_getMap hw, run_checkKey hkt, run_findKey hkt hk]
  cases hf : es.findIdx? (keyIs k) with
  | none =>
    simp only [run_setMap hw, Result.andThen_ok, Sem.run_pure, mupd, hf]
    simp
  | some j =>
    have h1 := (List.findIdx?_eq_some_iff_getElem.1 hf).1
    have h2 := (List.findIdx?_eq_some_iff_getElem.1 hf).2.1
    have hkey : es[j].key = .int .i64 k := by
      obtain ⟨m, hm⟩ := hk es[j] (List.getElem_mem h1)
      unfold keyIs at h2
      rw [hm] at h2
      simp at h2; subst h2; exact hm
    have hst : (Instr.keyThatStays (.int .i64 k) (.int .i64 k)).run P w = .ok (.int .i64 k) w := by
      have : Instr.sameBits 10000 (.int .i64 k) (.int .i64 k) = true := by unfold Instr.sameBits; simp
      simp [Instr.keyThatStays, this]
    have e1 : ((es[j]?).map fun e => (j, e.val)) = some (j, es[j].val) := by simp [h1]
    simp only [e1]
    have e2 : (((es.toArray[j]?).map (·.key)).getD (.int .i64 k)) = .int .i64 k := by simp [h1, hkey]
    simp only [e2, Sem.run_bind, hst, Result.andThen_ok, run_setMap hw, Sem.run_pure, mupd, hf]
    simp
end
end Go.SL
end
section
/- One element of a row, looked at closely; calls in the midst of other parts; drawn regions with stores. -/
namespace Go.SL
open Go.RowKit
variable {P : Program} {n : Nat}

/-- a row of which one element is looked at -/
def Foc (b T : Nat) (es : List (List Value)) (J : Nat) (e rest : List Value) : Frag := blk b T ((es.set J e).flatten ++ rest).toArray
theorem set_self {es : List (List Value)} {J : Nat} {e : List Value} (h : es[J]? = some e) : es.set J e = es := by
  apply List.ext_getElem?
  intro j
  rw [List.getElem?_set]
  split
  · rename_i hj; subst hj; rw [h]; have := (List.getElem?_eq_some_iff.1 h).1; simp [this]
  · rfl
theorem foc_of {b T : Nat} {es : List (List Value)} {J : Nat} {e rest : List Value} (h : es[J]? = some e) : blk b T (es.flatten ++ rest).toArray = Foc b T es J e rest := by rw [Foc, set_self h]
theorem foc_of0 {b T : Nat} {es : List (List Value)} {J : Nat} {e : List Value} (h : es[J]? = some e) : blk b T es.flatten.toArray = Foc b T es J e [] := by rw [Foc, set_self h, List.append_nil]
theorem foc_same (b T : Nat) (es : List (List Value)) (J : Nat) (e rest : List Value) : Foc b T es J e rest b = some (.cells ((es.set J e).flatten ++ rest).toArray T (0, 0)) := blk_same ..
theorem set_lens {es : List (List Value)} {k J : Nat} {e : List Value} (hl : ∀ e ∈ es, e.length = k) (he : e.length = k) : ∀ x ∈ es.set J e, x.length = k := fun x hx => by
  rcases List.mem_or_eq_of_mem_set hx with h | h
  · exact hl x h
  · subst h; exact he
theorem set_ones {es : List (List Value)} {J : Nat} {e : List Value} (hl : ∀ e ∈ es, ∀ v ∈ e, v.oneCell' = true) (he : ones e = true) : ∀ x ∈ es.set J e, ∀ v ∈ x, v.oneCell' = true := fun x hx => by
  rcases List.mem_or_eq_of_mem_set hx with h | h
  · exact hl x h
  · subst h; exact ones_spec he
theorem foc_get {es : List (List Value)} {k J f : Nat} {e rest : List Value} {v : Value} (hJ : J < es.length) (hl : ∀ e ∈ es, e.length = k) (he : llen e = k) (hv : lget e f = some v) : ((es.set J e).flatten ++ rest)[J * k + f]? = some v := by
  rw [lget_eq] at hv
  rw [llen_eq] at he
  have h1 : (es.set J e)[J]? = some e := by simp [hJ]
  have := flatten_get (set_lens hl he) h1 hv
  rw [List.getElem?_append_left (List.getElem?_eq_some_iff.1 this).1]; exact this
section
variable {ρ : Regs} {L : List Frag} {d : Option Tmp} {t : TypeId} {p : String} {af : Array Edge} {g : Option (Nat × Bool)}
theorem LD.f1 {ty k : Nat} [One P ty] {x : Operand} {b off T J f : Nat} {es : List (List Value)} {e rest : List Value} {v : Value} {r : Frag} {cs : List Value} {fr : Nat × Nat} (hx : rev ρ x = some (.pointer (some ⟨b, off, none⟩))) (hr : r ∈ L) (hb : r b = some (.cells cs.toArray T fr)) (hcs : cs = (es.set J e).flatten ++ rest) (hJ : J < es.length) (hl : ∀ e ∈ es, e.length = k) (he : Nat.beq (llen e) k = true)
    (hoff : off = J * k + f) (hv : lget e f = some v) : LD P ρ L ⟨d, .load ty x, t, p, af, g⟩ v := by
  subst hoff; subst hcs
  exact LD.load1f hx hr hb (by simpa using foc_get (rest := rest) hJ hl (Nat.eq_of_beq_eq_true he) hv)
theorem LD.fA {ty k m : Nat} [Agg P ty m] {x : Operand} {b off T J f : Nat} {es : List (List Value)} {e rest vs : List Value} {r : Frag} {cs : List Value} {fr : Nat × Nat} (hx : rev ρ x = some (.pointer (some ⟨b, off, none⟩))) (hr : r ∈ L) (hb : r b = some (.cells cs.toArray T fr)) (hcs : cs = (es.set J e).flatten ++ rest) (hJ : J < es.length) (hl : ∀ e ∈ es, e.length = k) (he : Nat.beq (llen e) k = true)
    (hoff : off = J * k + f) (hv : Fo (lsl f m e) vs) (hm : Nat.beq (llen vs) m = true) : LD P ρ L ⟨d, .load ty x, t, p, af, g⟩ (.agg vs.toArray) := by
  subst hoff; subst hcs
  have he := Nat.eq_of_beq_eq_true he
  have hm := Nat.eq_of_beq_eq_true hm
  have hv := hv.eq
  rw [lsl_eq] at hv
  rw [llen_eq] at he hm
  have hlen : f + m ≤ k ∨ m = 0 := by
    have : ((e.drop f).take m).length = m := by rw [hv, hm]
    rw [List.length_take, List.length_drop] at this; omega
  have h1 : (es.set J e)[J]? = some e := by simp [hJ]
  have hfl : J * k + k ≤ (es.set J e).flatten.length := by
    rw [flatten_len (set_lens hl he), List.length_set]
    have := Nat.mul_le_mul_right k (show J + 1 ≤ es.length from hJ)
    rw [Nat.succ_mul] at this; omega
  rcases hlen with hlen | h0
  · refine LD.loadAf hx hr hb (by rw [List.size_toArray, List.length_append]; omega) ?_
    rw [← hv]
    apply Array.ext'
    simp only [List.extract_toArray, List.extract_eq_take_drop, show J * k + f + m - (J * k + f) = m by omega]
    apply List.ext_getElem?
    intro j
    rw [List.getElem?_take, List.getElem?_take, List.getElem?_drop, List.getElem?_drop]
    split
    · rename_i hj
      obtain ⟨u, hu⟩ : ∃ u, e[f + j]? = some u := ⟨_, List.getElem?_eq_getElem (by omega)⟩
      rw [hu]
      have := foc_get (rest := rest) (k := k) (v := u) (f := f + j) hJ hl (by rw [llen_eq]; exact he) (by rw [lget_eq]; exact hu)
      rw [show J * k + f + j = J * k + (f + j) by omega]; exact this
    · rfl
  · subst h0
    have : vs = [] := List.eq_nil_of_length_eq_zero hm
    subst this
    intro n a w ha hs
    have h1 : (loadVar ty ⟨b, J * k + f, none⟩).run P w = .ok (.agg #[]) w := by
      have := Agg.agg (P := P) (t := ty) (k := 0) w
      have h2 := Agg.size (P := P) (t := ty) (k := 0) w
      simp only [loadVar, Sem.run_bind, this, Result.andThen_ok, if_true, h2]
      rfl
    simp [execOp, ha.eval hx, Instr.loadAt, Instr.sureAddr, h1]
theorem EF.f1 {ty k : Nat} [One P ty] {x y : Operand} {b off J f i T : Nat} {es : List (List Value)} {e e' rest : List Value} {v : Value} (hx : rev ρ x = some (.pointer (some ⟨b, off, none⟩))) (hy : rev ρ y = some v) (hv : v.oneCell' = true) (hoff : off = J * k + f)
    (hJ : J < es.length) (hl : ∀ e ∈ es, e.length = k) (he : Nat.beq (llen e) k = true) (hf : nlt f e = true) (he' : Fo (lsp f [v] e) e') (hi : L[i]? = some (Foc b T es J e rest)) : EF P ρ L ⟨d, .store ty x y, t, p, af, g⟩ undef (L.set i (Foc b T es J e' rest)) := by
  subst hoff
  have he := Nat.eq_of_beq_eq_true he
  rw [llen_eq] at he
  have hf := nlt_spec hf
  have hfl : J * k + k ≤ (es.set J e).flatten.length := by
    rw [flatten_len (set_lens hl he), List.length_set]
    have := Nat.mul_le_mul_right k (show J + 1 ≤ es.length from hJ)
    rw [Nat.succ_mul] at this; omega
  have := EF.store1 (P := P) (ty := ty) (d := d) (t := t) (p := p) (af := af) (g := g) hx hy hv hi (by rw [List.size_toArray, List.length_append]; omega)
  have e1 : ((es.set J e).flatten ++ rest).toArray.setIfInBounds (J * k + f) v = ((es.set J e').flatten ++ rest).toArray := by
    rw [← he'.eq, lsp_get]
    have h1 : (es.set J e)[J]? = some e := by simp [hJ]
    have h2 := flatten_set (v := v) (set_lens hl he) h1 (show f < k by omega)
    rw [List.set_set] at h2
    rw [← h2, ← List.set_append_left _ _ (by omega)]
    simp
  rw [e1] at this
  exact this
theorem EF.fA {ty k m : Nat} [Agg P ty m] {x y : Operand} {b off J f i T : Nat} {es : List (List Value)} {e e' rest vs : List Value} (hx : rev ρ x = some (.pointer (some ⟨b, off, none⟩))) (hy : rev ρ y = some (.agg vs.toArray)) (hv : ones vs = true) (hm : Nat.beq (llen vs) m = true) (hoff : off = J * k + f)
    (hJ : J < es.length) (hl : ∀ e ∈ es, e.length = k) (he : Nat.beq (llen e) k = true) (hf : Nat.ble (f + m) (llen e) = true) (he' : Fo (lsp f vs e) e') (hi : L[i]? = some (Foc b T es J e rest)) : EF P ρ L ⟨d, .store ty x y, t, p, af, g⟩ undef (L.set i (Foc b T es J e' rest)) := by
  subst hoff
  have he := Nat.eq_of_beq_eq_true he
  have hm := Nat.eq_of_beq_eq_true hm
  have hf := Nat.le_of_ble_eq_true hf
  rw [llen_eq] at he hm hf
  have hfl : J * k + k ≤ (es.set J e).flatten.length := by
    rw [flatten_len (set_lens hl he), List.length_set]
    have := Nat.mul_le_mul_right k (show J + 1 ≤ es.length from hJ)
    rw [Nat.succ_mul] at this; omega
  have := EF.storeA (P := P) (ty := ty) (d := d) (t := t) (p := p) (af := af) (g := g) (vs := vs.toArray) hx hy hi (by simpa using hm) (by rw [List.size_toArray, List.length_append]; omega) (Array.all_eq_true_iff_forall_mem.2 (fun v hv' => ones_spec hv v (by simpa using hv')))
  have e1 : splice ((es.set J e).flatten ++ rest).toArray (J * k + f) vs.toArray = ((es.set J e').flatten ++ rest).toArray := by
    rw [← he'.eq, lsp_eq f vs e (by omega)]
    have h1 : (es.set J e)[J]? = some e := by simp [hJ]
    have h2 := flatten_put (vs := vs) (set_lens hl he) h1 (show f + vs.length ≤ k by omega)
    rw [List.set_set] at h2
    rw [← h2]
    simp only [splice, List.size_toArray]
    congr 1
    rw [List.take_append_of_le_length (by omega), List.drop_append_of_le_length (by omega)]
    simp only [List.append_assoc]
  rw [e1] at this
  exact this
end
/-- a pointer to an element; none: there is none -/
def ptrO (v : Value) (k : Nat) : Option Nat → Option Addr
  | none => none
  | some j => match v with | .slice (some a) _ _ => some ⟨a.block, a.off + j * k, none⟩ | _ => none
section
variable {ops : Array Oper} {Q : Post} {l : List Oper} {o : Oper} {ρ : Regs}
theorem TL.clX {f : Nat} {args : List Value} {X pre F : List Frag} {L : List Frag} {post : Value → List Frag → Prop} (hc : CL P ρ o f args) (hf : Fn P f args pre post) (hL : L = X ++ (pre ++ F)) (hw : Wants n ops ρ o true) (hd : dok n o.dst = true)
    (k : ∀ v L', post v L' → TL P n ops Q l (dpush o.dst v ρ) (X ++ (L' ++ F))) : TL P n ops Q (o :: l) ρ L := by
  subst hL
  refine TL.cl hc hf (F := X ++ F) ?_ hw hd fun v L' h => TL.perm ?_ (k v L' h)
  · rw [← List.append_assoc, ← List.append_assoc]; exact List.perm_append_comm.append_right F
  · rw [← List.append_assoc, ← List.append_assoc]; exact List.perm_append_comm.append_right F
theorem TL.fold {X m F L : List Frag} (hL : L = X ++ (m ++ F)) (k : m.Pairwise Disj → TL P n ops Q l ρ (X ++ (un m :: F))) : TL P n ops Q l ρ L := fun a w hr hs => by
  subst hL
  have h1 : Sat w (m ++ (X ++ F)) := hs.perm (by rw [← List.append_assoc, ← List.append_assoc]; exact List.perm_append_comm.append_right F)
  exact k (List.pairwise_append.1 h1.dis).1 a w hr (h1.fold.perm (List.perm_middle (l₁ := X) (l₂ := F)).symm)
theorem TL.unfoldX {X m F L : List Frag} (hL : L = X ++ (un m :: F)) (hd : m.Pairwise Disj) (k : TL P n ops Q l ρ (X ++ (m ++ F))) : TL P n ops Q l ρ L := fun a w hr hs => by
  subst hL
  have h1 : Sat w (un m :: (X ++ F)) := hs.perm (List.perm_middle (l₁ := X) (l₂ := F))
  have h2 := h1.unfold hd
  exact k a w hr (h2.perm (by rw [← List.append_assoc, ← List.append_assoc]; exact List.perm_append_comm.append_right F))
theorem TL.dis {L : List Frag} (k : L.Pairwise Disj → TL P n ops Q l ρ L) : TL P n ops Q l ρ L := fun a w hr hs => k hs.dis a w hr hs
theorem TC.foldX {c : Code} {X m F L : List Frag} (hL : L = X ++ (m ++ F)) (k : m.Pairwise Disj → TC P n Q c ρ (X ++ (un m :: F))) : TC P n Q c ρ L := fun a w hr hs => by
  subst hL
  have h1 : Sat w (m ++ (X ++ F)) := hs.perm (by rw [← List.append_assoc, ← List.append_assoc]; exact List.perm_append_comm.append_right F)
  exact k (List.pairwise_append.1 h1.dis).1 a w hr (h1.fold.perm (List.perm_middle (l₁ := X) (l₂ := F)).symm)
theorem TC.unfoldX {c : Code} {X m F L : List Frag} (hL : L = X ++ (un m :: F)) (hd : m.Pairwise Disj) (k : TC P n Q c ρ (X ++ (m ++ F))) : TC P n Q c ρ L := fun a w hr hs => by
  subst hL
  have h1 : Sat w (un m :: (X ++ F)) := hs.perm (List.perm_middle (l₁ := X) (l₂ := F))
  have h2 := h1.unfold hd
  exact k a w hr (h2.perm (by rw [← List.append_assoc, ← List.append_assoc]; exact List.perm_append_comm.append_right F))
theorem TC.dropX {c : Code} {X F L : List Frag} (hL : L = X ++ F) (k : TC P n Q c ρ F) : TC P n Q c ρ L := fun a w hr hs => by
  subst hL; exact k a w hr (hs.of_sublist (List.sublist_append_right X F))
end
section
variable {ops : Array Oper} {R W : List Frag} {K : Nat → Nat} {Q : Post} {i : Nat} {l : List Nat} {o : Oper} {ρ : Regs} {L : List Frag}
theorem TD.efF {v : Value} {j : Nat} {r r' : Frag} (hi : ops[i]? = some o) (hK : K i = 2) (hA : ∀ {G : List Frag}, EF P ρ (r :: G) o v (r' :: G)) (hj : W[j]? = some r) (hw : Wants n ops ρ o true) (hd : dok n o.dst = true)
    (k : TD P n ops R W K Q l (dpush o.dst v ρ) true (W.set j r')) : TD P n ops R W K Q (i :: l) ρ false [] :=
  TD.ef (A := [r]) (A' := [r']) (F := W.eraseIdx j) hi hK (by show (W ++ []).Perm _; rw [List.append_nil]; exact perm_get hj) hw hd hA (fun a hr => (k a hr).perm (perm_set _ (List.getElem?_eq_some_iff.1 hj).1))
theorem TD.efT {v : Value} {j : Nat} {r r' : Frag} (hi : ops[i]? = some o) (hK : K i = 2) (hA : ∀ {G : List Frag}, EF P ρ (r :: G) o v (r' :: G)) (hj : L[j]? = some r) (hw : Wants n ops ρ o true) (hd : dok n o.dst = true)
    (k : TD P n ops R W K Q l (dpush o.dst v ρ) true (L.set j r')) : TD P n ops R W K Q (i :: l) ρ true L :=
  TD.ef (A := [r]) (A' := [r']) (F := L.eraseIdx j) hi hK (perm_get hj) hw hd hA (fun a hr => (k a hr).perm (perm_set _ (List.getElem?_eq_some_iff.1 hj).1))
/-- the part X is read throughout, the rest ahead of the first change -/
theorem TC.drawX {id : Nat} {L : List Frag} (ks c : List Nat) (hm : P.follows .mixedOrders = true) (hchk : chk ops ks c = true) (hal : ∀ j o, ops[j]? = some o → kof ks j = 4 → Lays P o) (hL : L = R ++ W)
    (h : TD P n ops R W (kof ks) Q c ρ false []) : TC P n Q (.region id ops true) ρ L := TC.draw ks c hm hchk hal (by rw [hL]) h
theorem TD.nilX {y : Code} {Q : Post} (k : TC P n Q y ρ (R ++ L)) : TD P n ops R W K (Post.seq (TC P n Q y) Q) [] ρ true L := TD.nil k
end
theorem IsSl.mk {T k b c : Nat} {es : List (List Value)} {rest : List Value} (h1 : ∀ e ∈ es, e.length = k) (h2 : ∀ e ∈ es, ∀ v ∈ e, v.oneCell' = true) (h3 : es.length ≤ c) (h4 : rest.length = (c - es.length) * k) : IsSl T k es (.slice (some ⟨b, 0, none⟩) es.length c) (blk b T (es.flatten ++ rest).toArray) :=
  ⟨h1, h2, .inr ⟨b, c, rest, rfl, rfl, h3, h4⟩⟩
/-- there is an element: so there is a block -/
theorem IsSl.at_ {T k : Nat} {es : List (List Value)} {v : Value} {r : Frag} (h : IsSl T k es v r) {J : Nat} {e : List Value} (he : es[J]? = some e) :
    ∃ b c rest, v = .slice (some ⟨b, 0, none⟩) es.length c ∧ r = Foc b T es J e rest ∧ J < es.length ∧ e.length = k ∧ es.length ≤ c ∧ rest.length = (c - es.length) * k := by
  obtain ⟨h1, h2, h3⟩ := h
  have hJ := (List.getElem?_eq_some_iff.1 he).1
  rcases h3 with ⟨rfl, rfl, rfl⟩ | ⟨b, c, rest, rfl, rfl, h4, h5⟩
  · simp at hJ
  · exact ⟨b, c, rest, rfl, foc_of he, hJ, h1 e (List.mem_of_getElem? he), h4, h5⟩
theorem IsSl.foc {T k b c J : Nat} {es : List (List Value)} {e rest : List Value} (h1 : ∀ e ∈ es, e.length = k) (h2 : ∀ e ∈ es, ∀ v ∈ e, v.oneCell' = true) (h3 : es.length ≤ c) (h4 : rest.length = (c - es.length) * k) (he : e.length = k) (ho : ones e = true) : IsSl T k (es.set J e) (.slice (some ⟨b, 0, none⟩) es.length c) (Foc b T es J e rest) := by
  have := IsSl.mk (T := T) (b := b) (c := c) (rest := rest) (set_lens (J := J) h1 he) (set_ones (J := J) h2 ho) (by simpa using h3) (by simpa using h4)
  rw [List.length_set] at this
  exact this
theorem Rd.mono {r r' : Frag} {q : Option Addr} {k : Nat} {es : List (List Value)} (h : Rd r q k es) (hm : ∀ b o, r b = some o → r' b = some o) : Rd r' q k es := by
  refine ⟨h.len, h.one, ?_⟩
  rcases h.at_ with e | ⟨b, o, cs, T, fr, h1, h2, h3⟩
  · exact .inl e
  · exact .inr ⟨b, o, cs, T, fr, h1, hm b _ h2, h3⟩
end Go.SL
namespace Go.SL
theorem no4 {P : Program} {ops : Array Oper} {ks : List Nat} (h : ks.all (fun x => Nat.blt x 4) = true) : ∀ j o, ops[j]? = some o → kof ks j = 4 → Lays P o := fun j o _ hk => by
  exfalso
  unfold kof at hk
  rw [List.getD_eq_getElem?_getD] at hk
  cases hg : ks[j]? with
  | none => simp [hg] at hk
  | some x =>
    simp [hg] at hk
    have := List.all_eq_true.1 h x (List.mem_of_getElem? hg)
    simp [Nat.blt] at this; omega
end Go.SL
namespace Go.SL
variable {P : Program} {n : Nat}
theorem perm3 {a b c : Frag} {F : List Frag} : (a :: b :: c :: F).Perm (b :: c :: a :: F) := (List.Perm.swap ..).trans ((List.Perm.swap ..).cons _)
theorem perm3' {a b c : Frag} {F : List Frag} : (b :: c :: a :: F).Perm (a :: b :: c :: F) := perm3.symm
/-- reads one part, and lays another one -/
def FnRN (P : Program) (f : Nat) (args : List Value) (r : Frag) (φ : Value → Frag → Prop) : Prop := Fn P f args [r] (fun v L' => ∃ r', φ v r' ∧ L' = [r', r])
section
variable {ops : Array Oper} {Q : Post} {l : List Oper} {o : Oper} {ρ : Regs} {L : List Frag}
theorem TL.crn {f : Nat} {args : List Value} {r : Frag} {φ : Value → Frag → Prop} (hc : CL P ρ o f args) (hf : FnRN P f args r φ) (hr : r ∈ L) (hw : Wants n ops ρ o true) (hd : dok n o.dst = true) (k : ∀ v r', φ v r' → TL P n ops Q l (dpush o.dst v ρ) (r' :: L)) : TL P n ops Q (o :: l) ρ L := by
  obtain ⟨i, hi, rfl⟩ := List.mem_iff_getElem.1 hr
  have hp := perm_get (List.getElem?_eq_getElem hi)
  exact TL.cl hc hf (F := L.eraseIdx i) hp hw hd fun v L' ⟨r', h1, h2⟩ => by subst h2; exact TL.perm (hp.symm.cons r') (k v r' h1)
end
section
variable {ρ : Regs} {L : List Frag} {d : Option Tmp} {t : TypeId} {p : String} {af : Array Edge} {g : Option (Nat × Bool)}
theorem NB.bSl0 {T e k : Nat} [hT : SliceT P T e k] : NB P ρ L ⟨d, .buildSlice T 0 #[], t, p, af, g⟩ e ([] : List Value).toArray (fun b => .slice (some ⟨b, 0, none⟩) 0 0) := fun m a w hr _ => by
  simp [execOp, Instr.buildSlice, run_underlying hT.und, hT.size, newRow, Instr.fill, show Array.range 0 = #[] from Array.eq_empty_of_size_eq_zero (by simp)]
end
end Go.SL
namespace Go.SL
theorem dis_ij {L : List Frag} (h : L.Pairwise Disj) (i j : Nat) {r s : Frag} (hi : L[i]? = some r) (hj : L[j]? = some s) (hij : Nat.blt i j = true) : Disj r s := by
  obtain ⟨h1, e1⟩ := List.getElem?_eq_some_iff.1 hi
  obtain ⟨h2, e2⟩ := List.getElem?_eq_some_iff.1 hj
  have := List.pairwise_iff_getElem.1 h i j h1 h2 (by simp [Nat.blt] at hij; omega)
  rw [e1, e2] at this; exact this
theorem Rd.lit {b T k : Nat} {l : List Value} (h : Nat.beq (llen l) k = true) (h1 : ones l = true) : Rd (blk b T l.toArray) (some ⟨b, 0, none⟩) k [l] :=
  ⟨fun e he => by rw [List.mem_singleton] at he; subst he; rw [← llen_eq]; exact Nat.eq_of_beq_eq_true h, fun e he v hv => by rw [List.mem_singleton] at he; subst he; exact ones_spec h1 v hv, .inr ⟨b, 0, _, T, _, rfl, blk_same .., fun j v hv => by simpa using hv⟩⟩
end Go.SL
namespace Go.SL
open Go.RowKit
variable {P : Program} {n : Nat}
theorem Wants.undef {ops : Array Oper} {ρ : Regs} {o : Oper} {j : Nat} {want : Bool} {t : Nat} (hg : o.guard = some (j, want)) (hj : (ops[j]?).bind (·.dst) = some t) (hv : rget ρ t = some Go.undef) : Wants n ops ρ o false := fun a ha => by
  have h1 := ha.get t _ hv
  have hy : yielded ops a.tmps j = none := by unfold yielded; rw [hj]; simp [h1, Go.undef]
  simp [Region.wanted, hg, hy]
section
variable {ops : Array Oper} {Q : Post} {l : List Oper} {o : Oper} {ρ : Regs} {L : List Frag}
theorem TL.un {j t : Nat} {want : Bool} (hg : o.guard = some (j, want)) (hj : (ops[j]?).bind (·.dst) = some t) (hv : rget ρ t = some Go.undef) (hd : dok n o.dst = true) (k : TL P n ops Q l (dpush o.dst Go.undef ρ) L) : TL P n ops Q (o :: l) ρ L := .skip (.undef hg hj hv) hd k
end
section
variable {ops : Array Oper} {R W : List Frag} {K : Nat → Nat} {Q : Post} {i : Nat} {l : List Nat} {o : Oper} {ρ : Regs} {ph : Bool} {L : List Frag}
theorem TD.un {j t : Nat} {want : Bool} (hi : ops[i]? = some o) (hg : o.guard = some (j, want)) (hj : (ops[j]?).bind (·.dst) = some t) (hv : rget ρ t = some Go.undef) (hd : dok n o.dst = true) (k : TD P n ops R W K Q l (dpush o.dst Go.undef ρ) ph L) : TD P n ops R W K Q (i :: l) ρ ph L := .no hi (.undef hg hj hv) hd k
end
end Go.SL
end
section
/- Append where there is room, copy, clear. -/
namespace Go.SL
open Go.RowKit
variable {P : Program} {n : Nat}
section
variable {ρ : Regs} {L : List Frag} {d : Option Tmp} {t : TypeId} {p : String} {af : Array Edge} {g : Option (Nat × Bool)}
theorem EF.appendIn {T e k bytes : Nat} {z : Value} [hS : SliceT P T e k] [hE : ElemT P e k bytes z] {x y : Operand} {q2 : Option Addr} {b c c2 i m : Nat} {es es2 : List (List Value)} {rest : List Value} {r2 : Frag} {ts : Array TypeId}
    (hx : rev ρ x = some (.slice (some ⟨b, 0, none⟩) m c)) (hm : m = es.length) (hy : rev ρ y = some (.slice q2 es2.length c2)) (ht : ts = #[T, T]) (hi : L[i]? = some (blk b e (es.flatten ++ rest).toArray)) (hl : ∀ x ∈ es, x.length = k) (h2 : Rd r2 q2 k es2) (hr2 : r2 ∈ L) (hroom : es.length + es2.length ≤ c) (hrest : rest.length = (c - es.length) * k) :
    EF P ρ L ⟨d, .call ⟨.builtin .append, #[x, y], ts⟩, t, p, af, g⟩ (.slice (some ⟨b, 0, none⟩) (es.length + es2.length) c) (L.set i (blk b e ((es ++ es2).flatten ++ rest.drop es2.flatten.length).toArray)) := fun n a w hr hs => by
  subst ht; subst hm
  obtain ⟨inf, i1, i2, i3, i4⟩ := hE.info
  have hsrc : Src P inf.size T (.slice q2 es2.length c2) es2.length es2.flatten w := by
    rw [i2]; exact h2.src (hs.sub r2 hr2) hS.und
  have hb' : w.heap[b]? = some (.cells (es.flatten ++ rest).toArray e (0, 0)) := hs.sub _ (List.mem_of_getElem? hi) b _ (blk_same ..)
  have hfl := flatten_len (k := k) (es := es) hl
  have hfl2 := flatten_len h2.len
  have hsz : es.length * k + es2.flatten.length ≤ (es.flatten ++ rest).length := by
    rw [List.length_append, hfl, hfl2, hrest]
    have : es2.length * k ≤ (c - es.length) * k := Nat.mul_le_mul_right k (by omega)
    omega
  have hst := run_storeCells_at (P := P) b (es.length * k) e es2.flatten 0 _ w hb' (by simpa using hsz) (flatten_one h2.one)
  have e3 : (es.flatten ++ rest).take (es.length * k) ++ es2.flatten ++ (es.flatten ++ rest).drop (es.length * k + es2.flatten.length) = (es ++ es2).flatten ++ rest.drop es2.flatten.length := by
    rw [← hfl, List.take_left, List.drop_append, List.flatten_append, List.drop_of_length_le (by omega), List.nil_append]
    congr 2; omega
  simp only [Nat.add_zero] at hst
  rw [e3] at hst
  refine ⟨w.setRow b ((es ++ es2).flatten ++ rest.drop es2.flatten.length).toArray, .inl ?_, hs.rowAt hi _, Keep.setRow w _ _⟩
  have hadd : (⟨b, 0, none⟩ : Addr).add (es.length * k) = ⟨b, es.length * k, none⟩ := by rw [Addr.add_none]; simp
  have hcells := hsrc.cells
  rw [i2] at hcells
  rw [← hadd] at hst
  simp [execOp, resolve, invoke, builtin, hr.eval hx, hr.eval hy, Builtin.append_, run_underlying hS.und, sizeOf, typeInfo, i1, i2, Builtin.lenOf, hroom, hcells, hst]
/-- copy of whole elements, all of which have room -/
theorem EF.copyK {T e k bytes : Nat} {z : Value} [hS : SliceT P T e k] [hE : ElemT P e k bytes z] {x y : Operand} {q2 : Option Addr} {b o dl dc c2 i TT : Nat} {cur : List Value} {es2 : List (List Value)} {r2 : Frag} {ts : Array TypeId}
    (hx : rev ρ x = some (.slice (some ⟨b, o, none⟩) dl dc)) (hy : rev ρ y = some (.slice q2 es2.length c2)) (ht : ts = #[T, T]) (hi : L[i]? = some (blk b TT cur.toArray)) (h2 : Rd r2 q2 k es2) (hr2 : r2 ∈ L) (hdl : es2.length ≤ dl) (hfit : o + es2.length * k ≤ cur.length) :
    EF P ρ L ⟨d, .call ⟨.builtin .copy, #[x, y], ts⟩, t, p, af, g⟩ (.int .i64 es2.length) (L.set i (blk b TT (cur.take o ++ es2.flatten ++ cur.drop (o + es2.length * k)).toArray)) := fun n a w hr hs => by
  subst ht
  obtain ⟨inf, i1, i2, i3, i4⟩ := hE.info
  have hsrc : Src P inf.size T (.slice q2 es2.length c2) es2.length es2.flatten w := by
    rw [i2]; exact h2.src (hs.sub r2 hr2) hS.und
  have hb' : w.heap[b]? = some (.cells cur.toArray TT (0, 0)) := hs.sub _ (List.mem_of_getElem? hi) b _ (blk_same ..)
  have hfl2 := flatten_len h2.len
  have hst := run_storeCells_at (P := P) b o TT es2.flatten 0 _ w hb' (by rw [hfl2]; simpa using hfit) (flatten_one h2.one)
  simp only [Nat.add_zero] at hst
  rw [hfl2] at hst
  refine ⟨w.setRow b (cur.take o ++ es2.flatten ++ cur.drop (o + es2.length * k)).toArray, .inl ?_, hs.rowAt hi _, Keep.setRow w _ _⟩
  have hcells := hsrc.cells
  rw [i2] at hcells
  have hmin : Nat.min es2.length dl = es2.length := Nat.min_eq_left hdl
  simp [execOp, resolve, invoke, builtin, hr.eval hx, hr.eval hy, Builtin.copy_, run_underlying hS.und, sizeOf, typeInfo, i1, i2, Builtin.lenOf, hmin, hcells, hst, goInt]
end
end Go.SL
namespace Go.SL
open Go.RowKit
variable {P : Program} {n : Nat}
theorem zeroCells_one {z : Array Value} (h : ∀ v ∈ z.toList, v.oneCell' = true) (m : Nat) : ∀ v ∈ (Builtin.zeroCells z m).toList, v.oneCell' = true := fun v hv => by
  rw [Array.mem_toList_iff, Array.mem_iff_getElem] at hv
  obtain ⟨i, hi, rfl⟩ := hv
  rw [zeroCells_size] at hi
  have hz : 0 < z.size := by
    rcases Nat.eq_zero_or_pos z.size with h0 | h0
    · rw [h0] at hi; simp at hi
    · exact h0
  have hlt : i % z.size < z.size := Nat.mod_lt _ hz
  simp only [Builtin.zeroCells, Array.getElem_map, Array.getElem_range]
  rw [getElem!_pos z _ hlt]
  exact h _ (by simp)
section
variable {ρ : Regs} {L : List Frag} {d : Option Tmp} {t : TypeId} {p : String} {af : Array Edge} {g : Option (Nat × Bool)}
theorem EF.clear {T e k : Nat} {zl : List Value} [hS : SliceT P T e k] [hz : ZeroV P e zl.toArray] {x : Operand} {b o m c i TT : Nat} {cur : List Value} {ts : Array TypeId}
    (hx : rev ρ x = some (.slice (some ⟨b, o, none⟩) (m + 1) c)) (ht : ts = #[T]) (hi : L[i]? = some (blk b TT cur.toArray)) (h1 : ones zl = true) (hfit : o + (m + 1) * zl.length ≤ cur.length) :
    EF P ρ L ⟨d, .call ⟨.builtin .clear, #[x], ts⟩, t, p, af, g⟩ (.tuple #[]) (L.set i (blk b TT (cur.take o ++ (Builtin.zeroCells zl.toArray (m + 1)).toList ++ cur.drop (o + (m + 1) * zl.length)).toArray)) := fun n a w hr hs => by
  subst ht
  obtain ⟨v, hv1, hv2⟩ := hz.run w
  have hb' : w.heap[b]? = some (.cells cur.toArray TT (0, 0)) := hs.sub _ (List.mem_of_getElem? hi) b _ (blk_same ..)
  have hlen : (Builtin.zeroCells zl.toArray (m + 1)).toList.length = (m + 1) * zl.length := by rw [Array.length_toList, zeroCells_size, List.size_toArray]
  have hst := run_storeCells_at (P := P) b o TT (Builtin.zeroCells zl.toArray (m + 1)).toList 0 _ w hb' (by rw [hlen]; simpa using hfit) (zeroCells_one (fun v hv => ones_spec h1 v hv) _)
  simp only [Nat.add_zero] at hst
  rw [hlen] at hst
  refine ⟨w.setRow b (cur.take o ++ (Builtin.zeroCells zl.toArray (m + 1)).toList ++ cur.drop (o + (m + 1) * zl.length)).toArray, .inl ?_, hs.rowAt hi _, Keep.setRow w _ _⟩
  simp [execOp, resolve, invoke, builtin, hr.eval hx, Builtin.clear_, run_underlying hS.und, hv1, hv2, hst]
end
end Go.SL
namespace Go.SL
theorem flatten_take {k : Nat} {es : List (List Value)} (hl : ∀ e ∈ es, e.length = k) {j : Nat} (hj : j ≤ es.length) (rest : List Value) : (es.flatten ++ rest).take (j * k) = (es.take j).flatten := by
  have h1 : (es.take j).flatten.length = j * k := by rw [flatten_len (fun e he => hl e (List.mem_of_mem_take he)), List.length_take, Nat.min_eq_left hj]
  have h2 : es.flatten = (es.take j).flatten ++ (es.drop j).flatten := by rw [← List.flatten_append, List.take_append_drop]
  rw [h2, List.append_assoc, ← h1, List.take_left]
theorem copy_down {k : Nat} {es : List (List Value)} (hl : ∀ e ∈ es, e.length = k) {j : Nat} (hj : j < es.length) (rest : List Value) :
    (es.flatten ++ rest).take (j * k) ++ (es.drop (j + 1)).flatten ++ (es.flatten ++ rest).drop (j * k + (es.drop (j + 1)).length * k) = (es.eraseIdx j).flatten ++ (es.flatten ++ rest).drop ((es.length - 1) * k) := by
  rw [flatten_take hl (by omega), List.eraseIdx_eq_take_drop_succ, List.flatten_append, List.length_drop, ← Nat.add_mul, show j + (es.length - (j + 1)) = es.length - 1 by omega]
theorem erase_lens {es : List (List Value)} {k : Nat} (hl : ∀ e ∈ es, e.length = k) (j : Nat) : ∀ e ∈ es.eraseIdx j, e.length = k := fun e he => hl e (List.mem_of_mem_eraseIdx he)
theorem erase_ones {es : List (List Value)} (hl : ∀ e ∈ es, ∀ v ∈ e, v.oneCell' = true) (j : Nat) : ∀ e ∈ es.eraseIdx j, ∀ v ∈ e, v.oneCell' = true := fun e he => hl e (List.mem_of_mem_eraseIdx he)
/-- a row without one element -/
theorem IsSl.erase {T k b c j : Nat} {es : List (List Value)} {rest : List Value} (hl : ∀ e ∈ es, e.length = k) (h1 : ∀ e ∈ es, ∀ v ∈ e, v.oneCell' = true) (hj : j < es.length) (h3 : es.length ≤ c) (h4 : rest.length = (c - es.length) * k) {cs : List Value} (hcs : cs = (es.eraseIdx j).flatten ++ (es.flatten ++ rest).drop ((es.length - 1) * k)) :
    IsSl T k (es.eraseIdx j) (.slice (some ⟨b, 0, none⟩) (es.length - 1) c) (blk b T cs.toArray) := by
  subst hcs
  have hlen : (es.eraseIdx j).length = es.length - 1 := List.length_eraseIdx_of_lt hj
  have := IsSl.mk (T := T) (b := b) (c := c) (rest := (es.flatten ++ rest).drop ((es.length - 1) * k)) (erase_lens hl j) (erase_ones h1 j) (by omega) (by
    rw [List.length_drop, List.length_append, flatten_len hl, h4, hlen]
    obtain ⟨m, hm⟩ : ∃ m, es.length = m + 1 := ⟨es.length - 1, by omega⟩
    rw [hm]
    obtain ⟨q, hq⟩ : ∃ q, c = m + 1 + q := ⟨c - (m + 1), by omega⟩
    rw [hq, show m + 1 + q - (m + 1) = q by omega, show m + 1 - 1 = m by omega, show m + 1 + q - m = q + 1 by omega, Nat.add_mul, Nat.add_mul]
    omega)
  rw [hlen] at this
  exact this
theorem Rd.drop_ {r : Frag} {b k T : Nat} {fr : Nat × Nat} {es : List (List Value)} {rest : List Value} (h : r b = some (.cells (es.flatten ++ rest).toArray T fr)) (hl : ∀ e ∈ es, e.length = k) (h1 : ∀ e ∈ es, ∀ v ∈ e, v.oneCell' = true) (j : Nat) (q : Option Addr) (hq : j < es.length → q = some ⟨b, j * k, none⟩) : Rd r q k (es.drop j) := by
  refine ⟨fun e he => hl e (List.mem_of_mem_drop he), fun e he => h1 e (List.mem_of_mem_drop he), ?_⟩
  rcases Nat.lt_or_ge j es.length with hj | hj
  · right
    refine ⟨b, j * k, _, T, fr, hq hj, h, fun i v hv => ?_⟩
    have hd : es.flatten = (es.take j).flatten ++ (es.drop j).flatten := by rw [← List.flatten_append, List.take_append_drop]
    have hlen : (es.take j).flatten.length = j * k := by
      rw [flatten_len (fun e he => hl e (List.mem_of_mem_take he)), List.length_take, Nat.min_eq_left (by omega)]
    have h2 := (List.getElem?_eq_some_iff.1 hv).1
    simp only [List.getElem?_toArray]
    rw [hd, List.append_assoc, List.getElem?_append_right (by omega), hlen, show j * k + i - j * k = i by omega, List.getElem?_append_left h2]
    exact hv
  · left; exact List.drop_of_length_le hj
end Go.SL
namespace Go.SL
open Go.RowKit
variable {P : Program} {n : Nat}
section
variable {ops : Array Oper} {R W : List Frag} {K : Nat → Nat} {Q : Post} {i : Nat} {l : List Nat} {o : Oper} {ρ : Regs} {L : List Frag}
/-- a first change whose outcome is left open -/
theorem TD.exF {A F : List Frag} {E : Value → List Frag → Prop} (hi : ops[i]? = some o) (hK : K i = 2) (hL : (W ++ L).Perm (A ++ F)) (hw : Wants n ops ρ o true) (hd : dok n o.dst = true)
    (hA : ∀ {G : List Frag}, EX P ρ (A ++ G) o (fun v L' => ∃ A', L' = A' ++ G ∧ E v A')) (k : ∀ v A', E v A' → TD P n ops R W K Q l (dpush o.dst v ρ) true (A' ++ F)) : TD P n ops R W K Q (i :: l) ρ false L := fun a hr =>
  .ef (E := fun v L' => ∃ A', L' = A' ++ F ∧ E v A') hi hK (hw a hr) (fun w G hs => by
    have hp : (R ++ (W ++ L) ++ G).Perm (A ++ (R ++ F ++ G)) := by
      refine ((hL.append_left R).append_right G).trans ?_
      simp only [List.append_assoc]
      exact List.perm_append_comm_assoc ..
    obtain ⟨v, L', w', h1, ⟨A', h2, h3⟩, h4, h5⟩ := hA n a w hr (hs.perm hp)
    refine ⟨v, A' ++ F, w', .inl h1, ⟨A', rfl, h3⟩, ?_, h5⟩
    rw [h2] at h4
    refine h4.perm ?_
    simp only [List.append_assoc]
    exact List.perm_append_comm_assoc ..) (fun v L' ⟨A', h1, h2⟩ => by subst h1; exact k v A' h2 _ (hr.put hd v))
end
theorem perm4 {a b c d : Frag} {F : List Frag} : ((a :: b :: c :: F) ++ [d]).Perm ([c, d] ++ (a :: b :: F)) :=
  ((((List.perm_append_singleton d F).cons c).cons b).cons a).trans ((List.perm_append_comm (l₁ := [a, b]) (l₂ := [c, d])).append_right F)
end Go.SL
namespace Go.SL
theorem IsSl.cleared {T k b c o m : Nat} {es : List (List Value)} {tl zs : List Value} (hl : ∀ e ∈ es, e.length = k) (h1 : ∀ e ∈ es, ∀ v ∈ e, v.oneCell' = true) (hc : es.length ≤ c) (ho : o = es.length * k) (hm : m = o + zs.length) (hz : zs.length ≤ tl.length) (ht : tl.length = (c - es.length) * k) :
    IsSl T k es (.slice (some ⟨b, 0, none⟩) es.length c) (blk b T ((es.flatten ++ tl).take o ++ zs ++ (es.flatten ++ tl).drop m).toArray) := by
  subst hm; subst ho
  have hf := flatten_len hl
  rw [← hf, List.take_left, List.append_assoc]
  exact IsSl.mk hl h1 hc (by rw [List.length_append, List.length_drop, List.length_append, hf]; omega)
end Go.SL
namespace Go.SL
theorem perm5 {x m s : Frag} {F : List Frag} : (x :: m :: s :: F).Perm ([s, x] ++ (m :: F)) :=
  ((List.Perm.swap s m F).cons x).trans (List.Perm.swap ..)
theorem perm5' {x m s : Frag} {F : List Frag} : ([s, x] ++ (m :: F)).Perm (x :: m :: s :: F) := perm5.symm
theorem perm6 {s b x m : Frag} {F : List Frag} : (s :: b :: x :: m :: F).Perm ([b, x] ++ ([m, s] ++ F)) :=
  (List.perm_append_comm (l₁ := [s]) (l₂ := [b, x, m])).append_right F
end Go.SL
namespace Go.SL
theorem perm7 {x m s : Frag} {F : List Frag} : (x :: m :: s :: F).Perm ([s] ++ ([x, m] ++ F)) := (List.perm_append_comm (l₁ := [x, m]) (l₂ := [s])).append_right F
theorem perm7' {x m s : Frag} {F : List Frag} : ([s] ++ ([x, m] ++ F)).Perm (x :: m :: s :: F) := perm7.symm
end Go.SL
namespace Go.SL
theorem Out.introN {P : Program} {rs : List ResultVar} {post : Value → List Frag → Prop} {F : List Frag} {ρ : Regs} {L : List Frag} {vs : List Value} {X L' : List Frag} (h1 : Res P ρ L rs vs) (h2 : post (pack vs) L') (h3 : L.Perm (X ++ (L' ++ F))) : Out P rs post F .normal ρ L := ⟨vs, X, L', L', h1, h2, h3, .refl _⟩
end Go.SL
namespace Go.SL
theorem perm2 {m s : Frag} {F : List Frag} : (m :: s :: F).Perm ([s] ++ ([m] ++ F)) := .swap ..
theorem perm2' {m s : Frag} {F : List Frag} : ([s] ++ ([m] ++ F)).Perm (m :: s :: F) := .swap ..
end Go.SL
namespace Go.SL
open Go.RowKit
variable {P : Program} {n : Nat}
section
variable {ops : Array Oper} {R W : List Frag} {K : Nat → Nat} {Q : Post} {i : Nat} {l : List Nat} {ρ : Regs} {L : List Frag} {d : Option Tmp} {t : TypeId} {p : String} {af : Array Edge} {g : Option (Nat × Bool)}
/-- append as the first change -/
theorem TD.appF {T e k bytes : Nat} {z : Value} [hS : SliceT P T e k] [hE : ElemT P e k bytes z] {x y : Operand} {v : Value} {q2 : Option Addr} {c2 : Nat} {es es2 : List (List Value)} {rs r2 : Frag} {F : List Frag}
    (hi : ops[i]? = some ⟨d, .call ⟨.builtin .append, #[x, y], #[T, T]⟩, t, p, af, g⟩) (hK : K i = 2) (hx : rev ρ x = some v) (hy : rev ρ y = some (.slice q2 es2.length c2)) (h1 : IsSl e k es v rs) (h2 : Rd r2 q2 k es2) (hL : (W ++ L).Perm ([rs, r2] ++ F)) (hb : 2 * (es.length + es2.length) * bytes ≤ 281474976710656) (hb2 : es.length + es2.length ≤ 281474976710656)
    (hw : Wants n ops ρ ⟨d, .call ⟨.builtin .append, #[x, y], #[T, T]⟩, t, p, af, g⟩ true) (hd : dok n d = true)
    (kk : ∀ v s2, IsSl e k (es ++ es2) v s2 → TD P n ops R W K Q l (dpush d v ρ) true (s2 :: r2 :: F)) : TD P n ops R W K Q (i :: l) ρ false L :=
  TD.exF (A := [rs, r2]) (E := fun v A' => ∃ s2, A' = [s2, r2] ∧ IsSl e k (es ++ es2) v s2) hi hK hL hw hd (fun {G} n a w hr hs => by
    obtain ⟨v2, L2, w2, g1, ⟨s2, rfl, g2⟩, g3, g4⟩ := EX.append (P := P) (T := T) (e := e) (x := x) (y := y) (ts := #[T, T]) (L := r2 :: G) (d := d) (t := t) (p := p) (af := af) (g := g) hx hy rfl h1 h2 (.tail _ (.head _)) hb hb2 n a w hr hs
    exact ⟨v2, _, w2, g1, ⟨[s2, r2], rfl, s2, rfl, g2⟩, g3, g4⟩) (fun v A' ⟨s2, h3, h4⟩ => by subst h3; exact kk v s2 h4)
end
end Go.SL
namespace Go.SL
open Go.RowKit
variable {P : Program} {n : Nat}
/-- which function a method is, and what it is given -/
class Meth (P : Program) (t : Nat) (v : Value) (name : String) (f : outParam Nat) (recv : outParam Value) : Prop where
  run : ∀ w, (method (P.types.size + Made.depth) t v name).run P w = .ok (f, recv) w
theorem Meth.of {t : Nat} {v : Value} {name : String} {f : Nat} {recv : Value} (h : ∀ m w, (method (m + 1) t v name).run P w = .ok (f, recv) w) (hs : P.types.size + Made.depth ≠ 0) : Meth P t v name f recv := ⟨fun w => by
  obtain ⟨m, hm⟩ := Nat.exists_eq_succ_of_ne_zero hs
  rw [hm]; exact h m w⟩
theorem missing_some {want : Array (String × TypeId)} {got : Array Method} {s : String} (h : (want.toList.filter fun (q : String × TypeId) => !got.any fun m => m.name == q.1 && m.sig == q.2).map (·.1) = [s]) : ∃ m, Instr.missingMethod want got = some m := by
  unfold Instr.missingMethod
  simp only [h]
  simp only [List.partition, List.partition.loop]
  split <;> simp_all [Instr.least]
section
variable {ρ : Regs} {L : List Frag} {d : Option Tmp} {t : TypeId} {p : String} {af : Array Edge} {g : Option (Nat × Bool)}
theorem LD.tassert {x : Operand} {xt as_ : TypeId} {ok : Bool} {u v : Value} (hx : rev ρ x = some u) (h : ∀ w, (Instr.typeAssert u xt as_ ok).run P w = .ok v w) : LD P ρ L ⟨d, .typeAssert x xt as_ ok, t, p, af, g⟩ v := fun n a w hr _ => by simp [execOp, hr.eval hx, h]
theorem CL.inv {f : Nat} {T : Nat} {v recv : Value} {name : String} [hm : Meth P T v name f recv] [hf : FnAt P f] {r : Operand} {xs : List Operand} {vs : List Value} {ts : Array TypeId} (hr : rev ρ r = some (.iface T v)) (h : revl ρ xs = some vs) : CL P ρ ⟨d, .call ⟨.invoke r name, xs.toArray, ts⟩, t, p, af, g⟩ f (recv :: vs) := fun n a w hrep => by
  have h1 := revl_eval hrep h
  have h2 := hm.run w
  have h3 := hf.run (recv :: vs).toArray w
  have e1 : xs.toArray.map a.eval = vs.toArray := by rw [← h1]; simp
  have e2 : (#[recv] ++ vs.toArray : Array Value) = (recv :: vs).toArray := by simp
  have e3 : ((#[Value.iface T v] ++ vs.toArray : Array Value)[0]?) = some (.iface T v) := by simp
  have e4 : (#[Value.iface T v] ++ vs.toArray : Array Value).extract 1 (#[Value.iface T v] ++ vs.toArray : Array Value).size = vs.toArray := by simp
  simp only [execOp, resolve, hrep.eval hr, e1, Sem.run_bind, Sem.run_pure, Result.andThen_ok, invoke, e3, e4, callMethod, run_program, h2, e2, h3]
theorem LD.idx1 {T e n : Nat} [hs : ArrT P T n e 1] [ha : One P e] {x y : Operand} {i : Nat} {l : List Value} {v : Value} (hx : rev ρ x = some (.agg l.toArray)) (hy : rev ρ y = some (.int .i64 (i : Int))) (hi : i < n) (hv : l[i]? = some v) :
    LD P ρ L ⟨d, .index T x y, t, p, af, g⟩ v := LD.index1 hx hy (by omega) (by simpa using hv)
end
end Go.SL
namespace Go.SL
open Go.RowKit
variable {P : Program} {n : Nat}
section
variable {ops : Array Oper} {R W : List Frag} {K : Nat → Nat} {Q : Post} {i : Nat} {l : List Nat} {o : Oper} {ρ : Regs} {L : List Frag}
/-- a call that changes one part, as the first change -/
theorem TD.cwX {f : Nat} {args : List Value} {r : Frag} {j : Nat} {φ : Value → Frag → Prop} (hi : ops[i]? = some o) (hK : K i = 2) (hc : CL P ρ o f args) (hf : FnW P f args r φ) (hj : W[j]? = some r) (hw : Wants n ops ρ o true) (hd : dok n o.dst = true)
    (k : ∀ v r', φ v r' → TD P n ops R W K Q l (dpush o.dst v ρ) true (W.set j r')) : TD P n ops R W K Q (i :: l) ρ false [] :=
  TD.cl (F := R ++ W.eraseIdx j) hi hK hc hf (by
    show (R ++ (W ++ [])).Perm ([r] ++ (R ++ W.eraseIdx j))
    rw [List.append_nil]
    exact ((perm_get hj).append_left R).trans (List.perm_middle (l₁ := R))) hw hd fun v L' ⟨r', h1, h2⟩ => ⟨W.set j r', by
      subst h2
      exact (List.perm_middle (l₁ := R)).symm.trans ((perm_set r' (List.getElem?_eq_some_iff.1 hj).1).symm.append_left R), k v r' h1⟩
end
theorem dis_mid (X m F : List Frag) (h : (X ++ (m ++ F)).Pairwise Disj) : m.Pairwise Disj := (List.pairwise_append.1 (List.pairwise_append.1 h).2.1).1
end Go.SL
namespace Go.SL
open Go.RowKit
variable {P : Program} {n : Nat}
section
variable {ops : Array Oper} {R : List Frag} {K : Nat → Nat} {Q : Post} {i : Nat} {l : List Nat} {o : Oper} {ρ : Regs} {ph : Bool} {L : List Frag}
theorem TD.crn {f : Nat} {args : List Value} {r : Frag} {φ : Value → Frag → Prop} (hi : ops[i]? = some o) (hK : K i = 2) (hc : CL P ρ o f args) (hf : FnRN P f args r φ) (hr : r ∈ R) (hw : Wants n ops ρ o true) (hd : dok n o.dst = true)
    (k : ∀ v r', φ v r' → TD P n ops R [] K Q l (dpush o.dst v ρ) true (r' :: L)) : TD P n ops R [] K Q (i :: l) ρ ph L := by
  obtain ⟨j, hj, e⟩ := List.mem_iff_getElem.1 hr
  have hp := perm_get (List.getElem?_eq_getElem hj)
  rw [e] at hp
  exact TD.cl (F := R.eraseIdx j ++ L) hi hK hc hf (by
    have : (R ++ L).Perm ([r] ++ (R.eraseIdx j ++ L)) := by rw [← List.append_assoc]; exact hp.append_right L
    cases ph <;> exact this) hw hd fun v L' ⟨r', h1, h2⟩ => ⟨r' :: L, by
      subst h2
      refine (show ([r', r] ++ (R.eraseIdx j ++ L)).Perm (r' :: (R ++ L)) from List.Perm.cons r' ?_).trans (List.perm_middle (l₁ := R)).symm
      have : (r :: (R.eraseIdx j ++ L)).Perm (R ++ L) := by
        have := hp.symm.append_right L
        simpa using this
      exact this, k v r' h1⟩
/-- a call that reads and changes several parts, all else is only read -/
theorem TD.clR {f : Nat} {args : List Value} {X pre F : List Frag} {post : Value → List Frag → Prop} (hi : ops[i]? = some o) (hK : K i = 2) (hc : CL P ρ o f args) (hf : Fn P f args pre post) (hR : R = X ++ (pre ++ F)) (hw : Wants n ops ρ o true) (hd : dok n o.dst = true)
    (hsame : ∀ v L', post v L' → L' = pre) (k : ∀ v, post v pre → TD P n ops R [] K Q l (dpush o.dst v ρ) true L) : TD P n ops R [] K Q (i :: l) ρ ph L := by
  subst hR
  exact TD.cl (F := X ++ F ++ L) hi hK hc hf (by
    have : ((X ++ (pre ++ F)) ++ L).Perm (pre ++ (X ++ F ++ L)) := by
      simp only [List.append_assoc]; exact List.perm_append_comm_assoc ..
    cases ph <;> exact this) hw hd fun v L' h => ⟨L, by
      rw [hsame v L' h]; simp only [List.append_assoc]; exact List.perm_append_comm_assoc .., k v (by have := hsame v L' h; rw [← this]; exact h)⟩
end
theorem Sat.unfold' {w : World} {l F : List Frag} (hd : l.Pairwise Disj) (h : Sat w ([un l] ++ F)) : Sat w (l ++ F) := h.unfold hd
/-- parts that are one part to others -/
theorem Fn.pack {f : Nat} {args : List Value} {l : List Frag} {post : Value → List Frag → Prop} {φ : Value → Frag → Prop} (h : Fn P f args l post) (hd : l.Pairwise Disj) (hp : ∀ v l', post v l' → l'.Pairwise Disj → φ v (un l')) : FnW P f args (un l) φ := fun w F hs =>
  (h w F (Sat.unfold' hd hs)).mono fun e w' ⟨v, L', h1, h2, h3, h4⟩ => ⟨v, [un L'], h1, ⟨un L', hp v L' h2 (List.pairwise_append.1 h3.dis).1, rfl⟩, h3.fold, h4⟩
theorem Fn.packR {f : Nat} {args : List Value} {l : List Frag} {post : Value → List Frag → Prop} {φ : Value → Prop} (h : Fn P f args l post) (hd : l.Pairwise Disj) (hp : ∀ v l', post v l' → φ v ∧ l' = l) : FnR P f args (un l) φ := fun w F hs =>
  (h w F (Sat.unfold' hd hs)).mono fun e w' ⟨v, L', h1, h2, h3, h4⟩ => ⟨v, [un L'], h1, ⟨(hp v L' h2).1, by rw [(hp v L' h2).2]⟩, h3.fold, h4⟩
end Go.SL
namespace Go.SL
open Go.RowKit
variable {P : Program} {n : Nat}
section
variable {ops : Array Oper} {R W : List Frag} {K : Nat → Nat} {Q : Post} {i : Nat} {l : List Nat} {o : Oper} {ρ : Regs} {L : List Frag}
theorem TD.cpF {f : Nat} {args : List Value} {φ : Value → Prop} (hi : ops[i]? = some o) (hK : K i = 2) (hc : CL P ρ o f args) (hf : FnP P f args φ) (hw : Wants n ops ρ o true) (hd : dok n o.dst = true)
    (k : ∀ v, φ v → TD P n ops R W K Q l (dpush o.dst v ρ) true W) : TD P n ops R W K Q (i :: l) ρ false [] :=
  TD.cl (F := R ++ W) hi hK hc hf (by show (R ++ (W ++ [])).Perm ([] ++ (R ++ W)); rw [List.append_nil]; exact .refl _) hw hd fun v L' ⟨h1, h2⟩ => ⟨W, by subst h2; exact .refl _, k v h1⟩
theorem TD.cpT {f : Nat} {args : List Value} {φ : Value → Prop} (hi : ops[i]? = some o) (hK : K i = 2) (hc : CL P ρ o f args) (hf : FnP P f args φ) (hw : Wants n ops ρ o true) (hd : dok n o.dst = true)
    (k : ∀ v, φ v → TD P n ops R W K Q l (dpush o.dst v ρ) true L) : TD P n ops R W K Q (i :: l) ρ true L :=
  TD.cl (F := R ++ L) hi hK hc hf (.refl _) hw hd fun v L' ⟨h1, h2⟩ => ⟨L, by subst h2; exact .refl _, k v h1⟩
theorem TD.cwXT {f : Nat} {args : List Value} {r : Frag} {j : Nat} {φ : Value → Frag → Prop} (hi : ops[i]? = some o) (hK : K i = 2) (hc : CL P ρ o f args) (hf : FnW P f args r φ) (hj : L[j]? = some r) (hw : Wants n ops ρ o true) (hd : dok n o.dst = true)
    (k : ∀ v r', φ v r' → TD P n ops R W K Q l (dpush o.dst v ρ) true (L.set j r')) : TD P n ops R W K Q (i :: l) ρ true L :=
  TD.cl (F := R ++ L.eraseIdx j) hi hK hc hf (by
    show (R ++ L).Perm ([r] ++ (R ++ L.eraseIdx j))
    exact ((perm_get hj).append_left R).trans (List.perm_middle (l₁ := R))) hw hd fun v L' ⟨r', h1, h2⟩ => ⟨L.set j r', by
      subst h2
      exact (List.perm_middle (l₁ := R)).symm.trans ((perm_set r' (List.getElem?_eq_some_iff.1 hj).1).symm.append_left R), k v r' h1⟩
/-- a call that takes several parts, the first that changes -/
theorem TD.clX {f : Nat} {args : List Value} {X pre F : List Frag} {post : Value → List Frag → Prop} (hi : ops[i]? = some o) (hK : K i = 2) (hc : CL P ρ o f args) (hf : Fn P f args pre post) (hW : W = X ++ (pre ++ F)) (hw : Wants n ops ρ o true) (hd : dok n o.dst = true)
    (k : ∀ v L', post v L' → TD P n ops R W K Q l (dpush o.dst v ρ) true (X ++ (L' ++ F))) : TD P n ops R W K Q (i :: l) ρ false [] :=
  TD.cl (F := R ++ (X ++ F)) hi hK hc hf (by
    subst hW
    show (R ++ ((X ++ (pre ++ F)) ++ [])).Perm _
    rw [List.append_nil]
    exact ((List.perm_append_comm_assoc X pre F).append_left R).trans (List.perm_append_comm_assoc R pre (X ++ F))) hw hd fun v L' h => ⟨X ++ (L' ++ F), by
      exact (List.perm_append_comm_assoc L' R (X ++ F)).trans ((List.perm_append_comm_assoc L' X F).append_left R), k v L' h⟩
theorem TD.clXT {f : Nat} {args : List Value} {X pre F : List Frag} {post : Value → List Frag → Prop} (hi : ops[i]? = some o) (hK : K i = 2) (hc : CL P ρ o f args) (hf : Fn P f args pre post) (hW : L = X ++ (pre ++ F)) (hw : Wants n ops ρ o true) (hd : dok n o.dst = true)
    (k : ∀ v L', post v L' → TD P n ops R W K Q l (dpush o.dst v ρ) true (X ++ (L' ++ F))) : TD P n ops R W K Q (i :: l) ρ true L :=
  TD.cl (F := R ++ (X ++ F)) hi hK hc hf (by
    subst hW
    show (R ++ (X ++ (pre ++ F))).Perm _
    exact ((List.perm_append_comm_assoc X pre F).append_left R).trans (List.perm_append_comm_assoc R pre (X ++ F))) hw hd fun v L' h => ⟨X ++ (L' ++ F), by
      exact (List.perm_append_comm_assoc L' R (X ++ F)).trans ((List.perm_append_comm_assoc L' X F).append_left R), k v L' h⟩
end
end Go.SL
namespace Go.SL
open Go.RowKit
variable {P : Program} {n : Nat}
section
variable {ops : Array Oper} {R W : List Frag} {K : Nat → Nat} {Q : Post} {i : Nat} {l : List Nat} {o : Oper} {ρ : Regs} {L : List Frag}
theorem TD.rx {v : Value} (hi : ops[i]? = some o) (hK : K i = 1) (h : LD P ρ (R ++ W) o v) (hg : o.guard = none) (hd : dok n o.dst = true) (k : TD P n ops R W K Q l (dpush o.dst v ρ) false L) : TD P n ops R W K Q (i :: l) ρ false L := .rd hi hK h (.un hg) hd k
theorem TD.rxy {v : Value} {j t : Nat} {want b : Bool} (hi : ops[i]? = some o) (hK : K i = 1) (h : LD P ρ (R ++ W) o v) (hb : b = want) (hg : o.guard = some (j, want)) (hj : (ops[j]?).bind (·.dst) = some t) (hv : rget ρ t = some (.bool b)) (hd : dok n o.dst = true) (k : TD P n ops R W K Q l (dpush o.dst v ρ) false L) : TD P n ops R W K Q (i :: l) ρ false L := .rd hi hK h (.yes hg hj hv hb) hd k
end
theorem Lays.alloc {d : Option Tmp} {ty t : TypeId} {p : String} {af : Array Edge} {g : Option (Nat × Bool)} {z : Array Value} [hz : ZeroV P ty z] : Lays P ⟨d, .alloc ty, t, p, af, g⟩ := by
  refine ⟨ty, z, fun b => .pointer (some ⟨b, 0, none⟩), fun a w => ?_⟩
  obtain ⟨v, h1, h2⟩ := hz.run w
  simp [execOp, Instr.alloc, h1, newVar, newRow, h2]
theorem lay1 {ops : Array Oper} {ks : List Nat} (j0 : Nat) (hks : (ks.zipIdx).all (fun q => !Nat.beq q.1 4 || Nat.beq q.2 j0) = true) (h : ∀ o, ops[j0]? = some o → Lays P o) : ∀ j o, ops[j]? = some o → kof ks j = 4 → Lays P o := fun j o ho hk => by
  have hj : j = j0 := by
    unfold kof at hk
    rw [List.getD_eq_getElem?_getD] at hk
    cases hg : ks[j]? with
    | none => simp [hg] at hk
    | some x =>
      simp [hg] at hk
      subst hk
      have hm : (4, j) ∈ ks.zipIdx := by rw [List.mem_zipIdx_iff_getElem?]; exact hg
      have := List.all_eq_true.1 hks _ hm
      simpa using this
  subst hj; exact h o ho
end Go.SL
namespace Go.SL
theorem permNew {m b f a x : Frag} {F : List Frag} : (m :: b :: f :: a :: x :: F).Perm ([x] ++ ([m, a, f, b] ++ F)) := by
  have h1 : ([b, f, a, x] ++ F).Perm ([x, a, f, b] ++ F) := ((List.reverse_perm [b, f, a, x]).symm).append_right F
  exact (h1.cons m).trans (List.Perm.swap ..)
end Go.SL
namespace Go.SL
theorem Fn.frame {P : Program} {f : Nat} {args : List Value} {l : List Frag} {post : Value → List Frag → Prop} (h : Fn P f args l post) (M : List Frag) : Fn P f args (l ++ M) (fun v L' => ∃ l', post v l' ∧ L' = l' ++ M) := fun w F hs =>
  (h w (M ++ F) (by rw [← List.append_assoc]; exact hs)).mono fun e w' ⟨v, L', h1, h2, h3, h4⟩ => ⟨v, L' ++ M, h1, ⟨L', h2, rfl⟩, by rw [List.append_assoc]; exact h3, h4⟩
end Go.SL
end
section
/- Conversions of whole numbers. -/
namespace Go.SL
open Go.RowKit
section
variable {P : Program} {ρ : Regs} {L : List Frag} {d : Option Tmp} {t : TypeId} {p : String} {af : Array Edge} {g : Option (Nat × Bool)}
theorem LD.conv {x : Operand} {src dst : TypeId} {D : TypeDesc} {k k2 : IntKind} {n : Int} (h : rev ρ x = some (.int k2 n)) (hs : P.underlying src = some D) (hd : P.underlying dst = some (.int k)) : LD P ρ L ⟨d, .convert src dst x, t, p, af, g⟩ (.int k (k.wrap n)) := fun m a w hr _ => by
  simp [execOp, hr.eval h, convert, run_underlying hs, run_underlying hd, Conv.intToInt]
theorem LD.eqT {x y : Operand} {tx ty : TypeId} {a b : Int} (hx : rev ρ x = some (.int .i64 a)) (hy : rev ρ y = some (.int .i64 b)) (h : a = b) : LD P ρ L ⟨d, .binOp .eql tx x y ty, t, p, af, g⟩ (.bool true) := by
  have := LD.eql (P := P) (L := L) (d := d) (tx := tx) (ty := ty) (t := t) (p := p) (af := af) (g := g) hx hy
  rwa [decide_eq_true h] at this
theorem LD.neqF {x y : Operand} {tx ty : TypeId} {a b : Int} (hx : rev ρ x = some (.int .i64 a)) (hy : rev ρ y = some (.int .i64 b)) (h : a = b) : LD P ρ L ⟨d, .binOp .neq tx x y ty, t, p, af, g⟩ (.bool false) := by
  have := LD.neq (P := P) (L := L) (d := d) (tx := tx) (ty := ty) (t := t) (p := p) (af := af) (g := g) hx hy
  rwa [decide_eq_true h] at this
theorem LD.neqT {x y : Operand} {tx ty : TypeId} {a b : Int} (hx : rev ρ x = some (.int .i64 a)) (hy : rev ρ y = some (.int .i64 b)) (h : a ≠ b) : LD P ρ L ⟨d, .binOp .neq tx x y ty, t, p, af, g⟩ (.bool true) := by
  have := LD.neq (P := P) (L := L) (d := d) (tx := tx) (ty := ty) (t := t) (p := p) (af := af) (g := g) hx hy
  rwa [decide_eq_false h] at this
theorem LD.eqST {x y : Operand} {tx ty dp : Nat} {s : List Bool} {xs ys : List Value} [h : EqA P tx dp s] (hx : rev ρ x = some (.agg xs.toArray)) (hy : rev ρ y = some (.agg ys.toArray)) (hg : P.eqGuardType P.depth tx = false) (hd : Nat.ble dp 10000 = true) (h1 : Shp s xs) (he : xs = ys) :
    LD P ρ L ⟨d, .binOp .eql tx x y ty, t, p, af, g⟩ (.bool true) := by
  subst he
  have := LD.eqS (P := P) (L := L) (d := d) (ty := ty) (t := t) (p := p) (af := af) (g := g) hx hy hg hd h1 h1
  rwa [(ceq_iff h1 h1).2 rfl] at this
theorem LD.neqSF {x y : Operand} {tx ty dp : Nat} {s : List Bool} {xs ys : List Value} [h : EqA P tx dp s] (hx : rev ρ x = some (.agg xs.toArray)) (hy : rev ρ y = some (.agg ys.toArray)) (hg : P.eqGuardType P.depth tx = false) (hd : Nat.ble dp 10000 = true) (h1 : Shp s xs) (he : xs = ys) :
    LD P ρ L ⟨d, .binOp .neq tx x y ty, t, p, af, g⟩ (.bool false) := by
  subst he
  have := LD.neqS (P := P) (L := L) (d := d) (ty := ty) (t := t) (p := p) (af := af) (g := g) hx hy hg hd h1 h1
  rwa [(ceq_iff h1 h1).2 rfl] at this
end
theorem wrap32_id {n : Int} : IntKind.wrap .i64 (IntKind.wrap .i32 n) = n ↔ -2147483648 ≤ n ∧ n ≤ 2147483647 := by
  simp only [IntKind.wrap, IntKind.bits, IntKind.signed]
  simp
  omega
end Go.SL
end
section
/- Appends in place; parts that hold nothing. -/
namespace Go.SL
open Go.RowKit
variable {P : Program} {n : Nat} {Q : Post} {ρ : Regs} {L : List Frag}
theorem TC.nof {c : Code} (k : TC P n Q c ρ (nof :: L)) : TC P n Q c ρ L := fun a w hr hs => k a w hr hs.nof
theorem take_snoc {α β : Type} {l : List α} {j : Nat} {x : α} (h : l[j]? = some x) (f : α → β) : (l.take j).map f ++ [f x] = (l.take (j + 1)).map f := by
  rw [List.take_add_one, h]; simp
section
variable {ops : Array Oper} {l : List Oper} {d : Option Tmp} {t : TypeId} {p : String} {af : Array Edge} {g : Option (Nat × Bool)}
theorem TL.app {T e k bytes c2 i : Nat} {z : Value} [hS : SliceT P T e k] [hE : ElemT P e k bytes z] {x y : Operand} {v : Value} {q2 : Option Addr} {es es2 es3 : List (List Value)} {rs r2 : Frag} {ts : Array TypeId}
    (hx : rev ρ x = some v) (hy : rev ρ y = some (.slice q2 es2.length c2)) (ht : ts = #[T, T]) (h1 : IsSl e k es v rs) (h2 : Rd r2 q2 k es2) (hr2 : r2 ∈ L) (hi : L[i]? = some rs) (he : es ++ es2 = es3)
    (hb : 2 * (es.length + es2.length) * bytes ≤ 281474976710656) (hb2 : es.length + es2.length ≤ 281474976710656)
    (hw : Wants n ops ρ ⟨d, .call ⟨.builtin .append, #[x, y], ts⟩, t, p, af, g⟩ true) (hd : dok n d = true)
    (k : ∀ q c s2, IsSl e k es3 (.slice q es3.length c) s2 → TL P n ops Q l (dpush d (.slice q es3.length c) ρ) (L.set i s2)) : TL P n ops Q (⟨d, .call ⟨.builtin .append, #[x, y], ts⟩, t, p, af, g⟩ :: l) ρ L :=
  TL.perm (perm_get hi) (TL.ex (EX.append hx hy ht h1 h2 ((perm_get hi).mem_iff.1 hr2) hb hb2) hw hd fun v' L' ⟨s2, e5, h⟩ => by
    subst e5; subst he
    obtain ⟨q, c, rfl, _⟩ := h.rd
    exact TL.perm (perm_set s2 (List.getElem?_eq_some_iff.1 hi).1).symm (k q c s2 h))
theorem TL.crs {o : Oper} {f : Nat} {args : List Value} {L0 F : List Frag} {φ : Value → Prop} (hc : CL P ρ o f args) (hf : Fn P f args L0 (fun v L' => φ v ∧ L' = L0)) (hp : L.Perm (L0 ++ F)) (hw : Wants n ops ρ o true) (hd : dok n o.dst = true)
    (k : ∀ v, φ v → TL P n ops Q l (dpush o.dst v ρ) L) : TL P n ops Q (o :: l) ρ L :=
  TL.cl hc hf hp hw hd fun v L' ⟨h1, h2⟩ => by subst h2; exact TL.perm hp.symm (k v h1)
theorem LD.gtrF {x y : Operand} {tx ty : TypeId} {a b : Int} (hx : rev ρ x = some (.int .i64 a)) (hy : rev ρ y = some (.int .i64 b)) (h : ¬ a > b) : LD P ρ L ⟨d, .binOp .gtr tx x y ty, t, p, af, g⟩ (.bool false) := by
  have := LD.gtr (P := P) (L := L) (d := d) (tx := tx) (ty := ty) (t := t) (p := p) (af := af) (g := g) hx hy
  rwa [decide_eq_false (by omega)] at this
theorem LD.eqF {x y : Operand} {tx ty : TypeId} {a b : Int} (hx : rev ρ x = some (.int .i64 a)) (hy : rev ρ y = some (.int .i64 b)) (h : a ≠ b) : LD P ρ L ⟨d, .binOp .eql tx x y ty, t, p, af, g⟩ (.bool false) := by
  have := LD.eql (P := P) (L := L) (d := d) (tx := tx) (ty := ty) (t := t) (p := p) (af := af) (g := g) hx hy
  rwa [decide_eq_false h] at this
end
theorem perm_get2 {α : Type} {L l F : List α} {i : Nat} {x : α} (h0 : L[i]? = some x) (h : (L.eraseIdx i).Perm (l ++ F)) : L.Perm (x :: l ++ F) := (perm_get h0).trans (h.cons x)
theorem perm_out {α : Type} {L X T : List α} {i : Nat} {r : α} (h0 : L[i]? = some r) (h : L.eraseIdx i = X ++ T) : L.Perm (X ++ (r :: T)) := (perm_get h0).trans (by rw [h]; exact List.perm_middle.symm)
theorem IsSl.rd' {T k n c : Nat} {es : List (List Value)} {q : Option Addr} {r : Frag} (h : IsSl T k es (.slice q n c) r) : n = es.length ∧ Rd r q k es := by
  obtain ⟨q2, c2, e, h2⟩ := h.rd
  injection e with e1 e2 e3
  subst e1 e2
  exact ⟨rfl, h2⟩
end Go.SL
end
