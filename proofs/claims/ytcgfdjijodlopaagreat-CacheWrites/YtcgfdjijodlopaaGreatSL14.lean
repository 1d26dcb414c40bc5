/- A part of proofs about the given program. No condition. -/
import Derived.Test.YtcgfdjijodlopaaGreatSL13
set_option linter.all false
/- One element of a row, looked at closely; calls in the midst of other parts; drawn regions with stores. -/
namespace Go.SL
open Go.RowKit
variable {P : Program} {n : Nat}

/-- a row of which one element is looked at -/
def Foc (b T : Nat) (es : List (List Value)) (J : Nat) (e rest : List Value) : Frag := blk b T ((es.set J e).flatten ++ rest).toArray
theorem set_self {es : List (List Value)} {J : Nat} {e : List Value} (h : es[J]? = some e) : es.set J e = es := by
  apply List.ext_getElem?
  intro j
  rw [List.getElem?_set]
  split
  · rename_i hj; subst hj; rw [h]; have := (List.getElem?_eq_some_iff.1 h).1; simp [this]
  · rfl
theorem foc_of {b T : Nat} {es : List (List Value)} {J : Nat} {e rest : List Value} (h : es[J]? = some e) : blk b T (es.flatten ++ rest).toArray = Foc b T es J e rest := by rw [Foc, set_self h]
theorem foc_of0 {b T : Nat} {es : List (List Value)} {J : Nat} {e : List Value} (h : es[J]? = some e) : blk b T es.flatten.toArray = Foc b T es J e [] := by rw [Foc, set_self h, List.append_nil]
theorem foc_same (b T : Nat) (es : List (List Value)) (J : Nat) (e rest : List Value) : Foc b T es J e rest b = some (.cells ((es.set J e).flatten ++ rest).toArray T (0, 0)) := blk_same ..
theorem set_lens {es : List (List Value)} {k J : Nat} {e : List Value} (hl : ∀ e ∈ es, e.length = k) (he : e.length = k) : ∀ x ∈ es.set J e, x.length = k := fun x hx => by
  rcases List.mem_or_eq_of_mem_set hx with h | h
  · exact hl x h
  · subst h; exact he
theorem set_ones {es : List (List Value)} {J : Nat} {e : List Value} (hl : ∀ e ∈ es, ∀ v ∈ e, v.oneCell' = true) (he : ones e = true) : ∀ x ∈ es.set J e, ∀ v ∈ x, v.oneCell' = true := fun x hx => by
  rcases List.mem_or_eq_of_mem_set hx with h | h
  · exact hl x h
  · subst h; exact ones_spec he
theorem foc_get {es : List (List Value)} {k J f : Nat} {e rest : List Value} {v : Value} (hJ : J < es.length) (hl : ∀ e ∈ es, e.length = k) (he : llen e = k) (hv : lget e f = some v) : ((es.set J e).flatten ++ rest)[J * k + f]? = some v := by
  rw [lget_eq] at hv
  rw [llen_eq] at he
  have h1 : (es.set J e)[J]? = some e := by simp [hJ]
  have := flatten_get (set_lens hl he) h1 hv
  rw [List.getElem?_append_left (List.getElem?_eq_some_iff.1 this).1]; exact this
section
variable {ρ : Regs} {L : List Frag} {d : Option Tmp} {t : TypeId} {p : String} {af : Array Edge} {g : Option (Nat × Bool)}
theorem LD.f1 {ty k : Nat} [One P ty] {x : Operand} {b off T J f : Nat} {es : List (List Value)} {e rest : List Value} {v : Value} {r : Frag} {cs : List Value} {fr : Nat × Nat} (hx : rev ρ x = some (.pointer (some ⟨b, off, none⟩))) (hr : r ∈ L) (hb : r b = some (.cells cs.toArray T fr)) (hcs : cs = (es.set J e).flatten ++ rest) (hJ : J < es.length) (hl : ∀ e ∈ es, e.length = k) (he : Nat.beq (llen e) k = true)
    (hoff : off = J * k + f) (hv : lget e f = some v) : LD P ρ L ⟨d, .load ty x, t, p, af, g⟩ v := by
  subst hoff; subst hcs
  exact LD.load1f hx hr hb (by simpa using foc_get (rest := rest) hJ hl (Nat.eq_of_beq_eq_true he) hv)
theorem LD.fA {ty k m : Nat} [Agg P ty m] {x : Operand} {b off T J f : Nat} {es : List (List Value)} {e rest vs : List Value} {r : Frag} {cs : List Value} {fr : Nat × Nat} (hx : rev ρ x = some (.pointer (some ⟨b, off, none⟩))) (hr : r ∈ L) (hb : r b = some (.cells cs.toArray T fr)) (hcs : cs = (es.set J e).flatten ++ rest) (hJ : J < es.length) (hl : ∀ e ∈ es, e.length = k) (he : Nat.beq (llen e) k = true)
    (hoff : off = J * k + f) (hv : Fo (lsl f m e) vs) (hm : Nat.beq (llen vs) m = true) : LD P ρ L ⟨d, .load ty x, t, p, af, g⟩ (.agg vs.toArray) := by
  subst hoff; subst hcs
  have he := Nat.eq_of_beq_eq_true he
  have hm := Nat.eq_of_beq_eq_true hm
  have hv := hv.eq
  rw [lsl_eq] at hv
  rw [llen_eq] at he hm
  have hlen : f + m ≤ k ∨ m = 0 := by
    have : ((e.drop f).take m).length = m := by rw [hv, hm]
    rw [List.length_take, List.length_drop] at this; omega
  have h1 : (es.set J e)[J]? = some e := by simp [hJ]
  have hfl : J * k + k ≤ (es.set J e).flatten.length := by
    rw [flatten_len (set_lens hl he), List.length_set]
    have := Nat.mul_le_mul_right k (show J + 1 ≤ es.length from hJ)
    rw [Nat.succ_mul] at this; omega
  rcases hlen with hlen | h0
  · refine LD.loadAf hx hr hb (by rw [List.size_toArray, List.length_append]; omega) ?_
    rw [← hv]
    apply Array.ext'
    simp only [List.extract_toArray, List.extract_eq_take_drop, show J * k + f + m - (J * k + f) = m by omega]
    apply List.ext_getElem?
    intro j
    rw [List.getElem?_take, List.getElem?_take, List.getElem?_drop, List.getElem?_drop]
    split
    · rename_i hj
      obtain ⟨u, hu⟩ : ∃ u, e[f + j]? = some u := ⟨_, List.getElem?_eq_getElem (by omega)⟩
      rw [hu]
      have := foc_get (rest := rest) (k := k) (v := u) (f := f + j) hJ hl (by rw [llen_eq]; exact he) (by rw [lget_eq]; exact hu)
      rw [show J * k + f + j = J * k + (f + j) by omega]; exact this
    · rfl
  · subst h0
    have : vs = [] := List.eq_nil_of_length_eq_zero hm
    subst this
    intro n a w ha hs
    have h1 : (loadVar ty ⟨b, J * k + f, none⟩).run P w = .ok (.agg #[]) w := by
      have := Agg.agg (P := P) (t := ty) (k := 0) w
      have h2 := Agg.size (P := P) (t := ty) (k := 0) w
      simp only [loadVar, Sem.run_bind, this, Result.andThen_ok, if_true, h2]
      rfl
    simp [execOp, ha.eval hx, Instr.loadAt, Instr.sureAddr, h1]
theorem EF.f1 {ty k : Nat} [One P ty] {x y : Operand} {b off J f i T : Nat} {es : List (List Value)} {e e' rest : List Value} {v : Value} (hx : rev ρ x = some (.pointer (some ⟨b, off, none⟩))) (hy : rev ρ y = some v) (hv : v.oneCell' = true) (hoff : off = J * k + f)
    (hJ : J < es.length) (hl : ∀ e ∈ es, e.length = k) (he : Nat.beq (llen e) k = true) (hf : nlt f e = true) (he' : Fo (lsp f [v] e) e') (hi : L[i]? = some (Foc b T es J e rest)) : EF P ρ L ⟨d, .store ty x y, t, p, af, g⟩ undef (L.set i (Foc b T es J e' rest)) := by
  subst hoff
  have he := Nat.eq_of_beq_eq_true he
  rw [llen_eq] at he
  have hf := nlt_spec hf
  have hfl : J * k + k ≤ (es.set J e).flatten.length := by
    rw [flatten_len (set_lens hl he), List.length_set]
    have := Nat.mul_le_mul_right k (show J + 1 ≤ es.length from hJ)
    rw [Nat.succ_mul] at this; omega
  have := EF.store1 (P := P) (ty := ty) (d := d) (t := t) (p := p) (af := af) (g := g) hx hy hv hi (by rw [List.size_toArray, List.length_append]; omega)
  have e1 : ((es.set J e).flatten ++ rest).toArray.setIfInBounds (J * k + f) v = ((es.set J e').flatten ++ rest).toArray := by
    rw [← he'.eq, lsp_get]
    have h1 : (es.set J e)[J]? = some e := by simp [hJ]
    have h2 := flatten_set (v := v) (set_lens hl he) h1 (show f < k by omega)
    rw [List.set_set] at h2
    rw [← h2, ← List.set_append_left _ _ (by omega)]
    simp
  rw [e1] at this
  exact this
theorem EF.fA {ty k m : Nat} [Agg P ty m] {x y : Operand} {b off J f i T : Nat} {es : List (List Value)} {e e' rest vs : List Value} (hx : rev ρ x = some (.pointer (some ⟨b, off, none⟩))) (hy : rev ρ y = some (.agg vs.toArray)) (hv : ones vs = true) (hm : Nat.beq (llen vs) m = true) (hoff : off = J * k + f)
    (hJ : J < es.length) (hl : ∀ e ∈ es, e.length = k) (he : Nat.beq (llen e) k = true) (hf : Nat.ble (f + m) (llen e) = true) (he' : Fo (lsp f vs e) e') (hi : L[i]? = some (Foc b T es J e rest)) : EF P ρ L ⟨d, .store ty x y, t, p, af, g⟩ undef (L.set i (Foc b T es J e' rest)) := by
  subst hoff
  have he := Nat.eq_of_beq_eq_true he
  have hm := Nat.eq_of_beq_eq_true hm
  have hf := Nat.le_of_ble_eq_true hf
  rw [llen_eq] at he hm hf
  have hfl : J * k + k ≤ (es.set J e).flatten.length := by
    rw [flatten_len (set_lens hl he), List.length_set]
    have := Nat.mul_le_mul_right k (show J + 1 ≤ es.length from hJ)
    rw [Nat.succ_mul] at this; omega
  have := EF.storeA (P := P) (ty := ty) (d := d) (t := t) (p := p) (af := af) (g := g) (vs := vs.toArray) hx hy hi (by simpa using hm) (by rw [List.size_toArray, List.length_append]; omega) (Array.all_eq_true_iff_forall_mem.2 (fun v hv' => ones_spec hv v (by simpa using hv')))
  have e1 : splice ((es.set J e).flatten ++ rest).toArray (J * k + f) vs.toArray = ((es.set J e').flatten ++ rest).toArray := by
    rw [← he'.eq, lsp_eq f vs e (by omega)]
    have h1 : (es.set J e)[J]? = some e := by simp [hJ]
    have h2 := flatten_put (vs := vs) (set_lens hl he) h1 (show f + vs.length ≤ k by omega)
    rw [List.set_set] at h2
    rw [← h2]
    simp only [splice, List.size_toArray]
    congr 1
    rw [List.take_append_of_le_length (by omega), List.drop_append_of_le_length (by omega)]
    simp only [List.append_assoc]
  rw [e1] at this
  exact this
end
/-- a pointer to an element; none: there is none -/
def ptrO (v : Value) (k : Nat) : Option Nat → Option Addr
  | none => none
  | some j => match v with | .slice (some a) _ _ => some ⟨a.block, a.off + j * k, none⟩ | _ => none
section
variable {ops : Array Oper} {Q : Post} {l : List Oper} {o : Oper} {ρ : Regs}
theorem TL.clX {f : Nat} {args : List Value} {X pre F : List Frag} {L : List Frag} {post : Value → List Frag → Prop} (hc : CL P ρ o f args) (hf : Fn P f args pre post) (hL : L = X ++ (pre ++ F)) (hw : Wants n ops ρ o true) (hd : dok n o.dst = true)
    (k : ∀ v L', post v L' → TL P n ops Q l (dpush o.dst v ρ) (X ++ (L' ++ F))) : TL P n ops Q (o :: l) ρ L := by
  subst hL
  refine TL.cl hc hf (F := X ++ F) ?_ hw hd fun v L' h => TL.perm ?_ (k v L' h)
  · rw [← List.append_assoc, ← List.append_assoc]; exact List.perm_append_comm.append_right F
  · rw [← List.append_assoc, ← List.append_assoc]; exact List.perm_append_comm.append_right F
theorem TL.fold {X m F L : List Frag} (hL : L = X ++ (m ++ F)) (k : m.Pairwise Disj → TL P n ops Q l ρ (X ++ (un m :: F))) : TL P n ops Q l ρ L := fun a w hr hs => by
  subst hL
  have h1 : Sat w (m ++ (X ++ F)) := hs.perm (by rw [← List.append_assoc, ← List.append_assoc]; exact List.perm_append_comm.append_right F)
  exact k (List.pairwise_append.1 h1.dis).1 a w hr (h1.fold.perm (List.perm_middle (l₁ := X) (l₂ := F)).symm)
theorem TL.unfoldX {X m F L : List Frag} (hL : L = X ++ (un m :: F)) (hd : m.Pairwise Disj) (k : TL P n ops Q l ρ (X ++ (m ++ F))) : TL P n ops Q l ρ L := fun a w hr hs => by
  subst hL
  have h1 : Sat w (un m :: (X ++ F)) := hs.perm (List.perm_middle (l₁ := X) (l₂ := F))
  have h2 := h1.unfold hd
  exact k a w hr (h2.perm (by rw [← List.append_assoc, ← List.append_assoc]; exact List.perm_append_comm.append_right F))
theorem TL.dis {L : List Frag} (k : L.Pairwise Disj → TL P n ops Q l ρ L) : TL P n ops Q l ρ L := fun a w hr hs => k hs.dis a w hr hs
theorem TC.foldX {c : Code} {X m F L : List Frag} (hL : L = X ++ (m ++ F)) (k : m.Pairwise Disj → TC P n Q c ρ (X ++ (un m :: F))) : TC P n Q c ρ L := fun a w hr hs => by
  subst hL
  have h1 : Sat w (m ++ (X ++ F)) := hs.perm (by rw [← List.append_assoc, ← List.append_assoc]; exact List.perm_append_comm.append_right F)
  exact k (List.pairwise_append.1 h1.dis).1 a w hr (h1.fold.perm (List.perm_middle (l₁ := X) (l₂ := F)).symm)
theorem TC.unfoldX {c : Code} {X m F L : List Frag} (hL : L = X ++ (un m :: F)) (hd : m.Pairwise Disj) (k : TC P n Q c ρ (X ++ (m ++ F))) : TC P n Q c ρ L := fun a w hr hs => by
  subst hL
  have h1 : Sat w (un m :: (X ++ F)) := hs.perm (List.perm_middle (l₁ := X) (l₂ := F))
  have h2 := h1.unfold hd
  exact k a w hr (h2.perm (by rw [← List.append_assoc, ← List.append_assoc]; exact List.perm_append_comm.append_right F))
theorem TC.dropX {c : Code} {X F L : List Frag} (hL : L = X ++ F) (k : TC P n Q c ρ F) : TC P n Q c ρ L := fun a w hr hs => by
  subst hL; exact k a w hr (hs.of_sublist (List.sublist_append_right X F))
end
section
variable {ops : Array Oper} {R W : List Frag} {K : Nat → Nat} {Q : Post} {i : Nat} {l : List Nat} {o : Oper} {ρ : Regs} {L : List Frag}
theorem TD.efF {v : Value} {j : Nat} {r r' : Frag} (hi : ops[i]? = some o) (hK : K i = 2) (hA : ∀ {G : List Frag}, EF P ρ (r :: G) o v (r' :: G)) (hj : W[j]? = some r) (hw : Wants n ops ρ o true) (hd : dok n o.dst = true)
    (k : TD P n ops R W K Q l (dpush o.dst v ρ) true (W.set j r')) : TD P n ops R W K Q (i :: l) ρ false [] :=
  TD.ef (A := [r]) (A' := [r']) (F := W.eraseIdx j) hi hK (by show (W ++ []).Perm _; rw [List.append_nil]; exact perm_get hj) hw hd hA (fun a hr => (k a hr).perm (perm_set _ (List.getElem?_eq_some_iff.1 hj).1))
theorem TD.efT {v : Value} {j : Nat} {r r' : Frag} (hi : ops[i]? = some o) (hK : K i = 2) (hA : ∀ {G : List Frag}, EF P ρ (r :: G) o v (r' :: G)) (hj : L[j]? = some r) (hw : Wants n ops ρ o true) (hd : dok n o.dst = true)
    (k : TD P n ops R W K Q l (dpush o.dst v ρ) true (L.set j r')) : TD P n ops R W K Q (i :: l) ρ true L :=
  TD.ef (A := [r]) (A' := [r']) (F := L.eraseIdx j) hi hK (perm_get hj) hw hd hA (fun a hr => (k a hr).perm (perm_set _ (List.getElem?_eq_some_iff.1 hj).1))
/-- the part X is read throughout, the rest ahead of the first change -/
theorem TC.drawX {id : Nat} {L : List Frag} (ks c : List Nat) (hm : P.follows .mixedOrders = true) (hchk : chk ops ks c = true) (hal : ∀ j o, ops[j]? = some o → kof ks j = 4 → Lays P o) (hL : L = R ++ W)
    (h : TD P n ops R W (kof ks) Q c ρ false []) : TC P n Q (.region id ops true) ρ L := TC.draw ks c hm hchk hal (by rw [hL]) h
theorem TD.nilX {y : Code} {Q : Post} (k : TC P n Q y ρ (R ++ L)) : TD P n ops R W K (Post.seq (TC P n Q y) Q) [] ρ true L := TD.nil k
end
theorem IsSl.mk {T k b c : Nat} {es : List (List Value)} {rest : List Value} (h1 : ∀ e ∈ es, e.length = k) (h2 : ∀ e ∈ es, ∀ v ∈ e, v.oneCell' = true) (h3 : es.length ≤ c) (h4 : rest.length = (c - es.length) * k) : IsSl T k es (.slice (some ⟨b, 0, none⟩) es.length c) (blk b T (es.flatten ++ rest).toArray) :=
  ⟨h1, h2, .inr ⟨b, c, rest, rfl, rfl, h3, h4⟩⟩
/-- there is an element: so there is a block -/
theorem IsSl.at_ {T k : Nat} {es : List (List Value)} {v : Value} {r : Frag} (h : IsSl T k es v r) {J : Nat} {e : List Value} (he : es[J]? = some e) :
    ∃ b c rest, v = .slice (some ⟨b, 0, none⟩) es.length c ∧ r = Foc b T es J e rest ∧ J < es.length ∧ e.length = k ∧ es.length ≤ c ∧ rest.length = (c - es.length) * k := by
  obtain ⟨h1, h2, h3⟩ := h
  have hJ := (List.getElem?_eq_some_iff.1 he).1
  rcases h3 with ⟨rfl, rfl, rfl⟩ | ⟨b, c, rest, rfl, rfl, h4, h5⟩
  · simp at hJ
  · exact ⟨b, c, rest, rfl, foc_of he, hJ, h1 e (List.mem_of_getElem? he), h4, h5⟩
theorem IsSl.foc {T k b c J : Nat} {es : List (List Value)} {e rest : List Value} (h1 : ∀ e ∈ es, e.length = k) (h2 : ∀ e ∈ es, ∀ v ∈ e, v.oneCell' = true) (h3 : es.length ≤ c) (h4 : rest.length = (c - es.length) * k) (he : e.length = k) (ho : ones e = true) : IsSl T k (es.set J e) (.slice (some ⟨b, 0, none⟩) es.length c) (Foc b T es J e rest) := by
  have := IsSl.mk (T := T) (b := b) (c := c) (rest := rest) (set_lens (J := J) h1 he) (set_ones (J := J) h2 ho) (by simpa using h3) (by simpa using h4)
  rw [List.length_set] at this
  exact this
theorem Rd.mono {r r' : Frag} {q : Option Addr} {k : Nat} {es : List (List Value)} (h : Rd r q k es) (hm : ∀ b o, r b = some o → r' b = some o) : Rd r' q k es := by
  refine ⟨h.len, h.one, ?_⟩
  rcases h.at_ with e | ⟨b, o, cs, T, fr, h1, h2, h3⟩
  · exact .inl e
  · exact .inr ⟨b, o, cs, T, fr, h1, hm b _ h2, h3⟩
end Go.SL
namespace Go.SL
theorem no4 {P : Program} {ops : Array Oper} {ks : List Nat} (h : ks.all (fun x => Nat.blt x 4) = true) : ∀ j o, ops[j]? = some o → kof ks j = 4 → Lays P o := fun j o _ hk => by
  exfalso
  unfold kof at hk
  rw [List.getD_eq_getElem?_getD] at hk
  cases hg : ks[j]? with
  | none => simp [hg] at hk
  | some x =>
    simp [hg] at hk
    have := List.all_eq_true.1 h x (List.mem_of_getElem? hg)
    simp [Nat.blt] at this; omega
end Go.SL
namespace Go.SL
variable {P : Program} {n : Nat}
theorem perm3 {a b c : Frag} {F : List Frag} : (a :: b :: c :: F).Perm (b :: c :: a :: F) := (List.Perm.swap ..).trans ((List.Perm.swap ..).cons _)
theorem perm3' {a b c : Frag} {F : List Frag} : (b :: c :: a :: F).Perm (a :: b :: c :: F) := perm3.symm
/-- reads one part, and lays another one -/
def FnRN (P : Program) (f : Nat) (args : List Value) (r : Frag) (φ : Value → Frag → Prop) : Prop := Fn P f args [r] (fun v L' => ∃ r', φ v r' ∧ L' = [r', r])
section
variable {ops : Array Oper} {Q : Post} {l : List Oper} {o : Oper} {ρ : Regs} {L : List Frag}
theorem TL.crn {f : Nat} {args : List Value} {r : Frag} {φ : Value → Frag → Prop} (hc : CL P ρ o f args) (hf : FnRN P f args r φ) (hr : r ∈ L) (hw : Wants n ops ρ o true) (hd : dok n o.dst = true) (k : ∀ v r', φ v r' → TL P n ops Q l (dpush o.dst v ρ) (r' :: L)) : TL P n ops Q (o :: l) ρ L := by
  obtain ⟨i, hi, rfl⟩ := List.mem_iff_getElem.1 hr
  have hp := perm_get (List.getElem?_eq_getElem hi)
  exact TL.cl hc hf (F := L.eraseIdx i) hp hw hd fun v L' ⟨r', h1, h2⟩ => by subst h2; exact TL.perm (hp.symm.cons r') (k v r' h1)
end
section
variable {ρ : Regs} {L : List Frag} {d : Option Tmp} {t : TypeId} {p : String} {af : Array Edge} {g : Option (Nat × Bool)}
theorem NB.bSl0 {T e k : Nat} [hT : SliceT P T e k] : NB P ρ L ⟨d, .buildSlice T 0 #[], t, p, af, g⟩ e ([] : List Value).toArray (fun b => .slice (some ⟨b, 0, none⟩) 0 0) := fun m a w hr _ => by
  simp [execOp, Instr.buildSlice, run_underlying hT.und, hT.size, newRow, Instr.fill, show Array.range 0 = #[] from Array.eq_empty_of_size_eq_zero (by simp)]
end
end Go.SL
namespace Go.SL
theorem dis_ij {L : List Frag} (h : L.Pairwise Disj) (i j : Nat) {r s : Frag} (hi : L[i]? = some r) (hj : L[j]? = some s) (hij : Nat.blt i j = true) : Disj r s := by
  obtain ⟨h1, e1⟩ := List.getElem?_eq_some_iff.1 hi
  obtain ⟨h2, e2⟩ := List.getElem?_eq_some_iff.1 hj
  have := List.pairwise_iff_getElem.1 h i j h1 h2 (by simp [Nat.blt] at hij; omega)
  rw [e1, e2] at this; exact this
theorem Rd.lit {b T k : Nat} {l : List Value} (h : Nat.beq (llen l) k = true) (h1 : ones l = true) : Rd (blk b T l.toArray) (some ⟨b, 0, none⟩) k [l] :=
  ⟨fun e he => by rw [List.mem_singleton] at he; subst he; rw [← llen_eq]; exact Nat.eq_of_beq_eq_true h, fun e he v hv => by rw [List.mem_singleton] at he; subst he; exact ones_spec h1 v hv, .inr ⟨b, 0, _, T, _, rfl, blk_same .., fun j v hv => by simpa using hv⟩⟩
end Go.SL
namespace Go.SL
open Go.RowKit
variable {P : Program} {n : Nat}
theorem Wants.undef {ops : Array Oper} {ρ : Regs} {o : Oper} {j : Nat} {want : Bool} {t : Nat} (hg : o.guard = some (j, want)) (hj : (ops[j]?).bind (·.dst) = some t) (hv : rget ρ t = some Go.undef) : Wants n ops ρ o false := fun a ha => by
  have h1 := ha.get t _ hv
  have hy : yielded ops a.tmps j = none := by unfold yielded; rw [hj]; simp [h1, Go.undef]
  simp [Region.wanted, hg, hy]
section
variable {ops : Array Oper} {Q : Post} {l : List Oper} {o : Oper} {ρ : Regs} {L : List Frag}
theorem TL.un {j t : Nat} {want : Bool} (hg : o.guard = some (j, want)) (hj : (ops[j]?).bind (·.dst) = some t) (hv : rget ρ t = some Go.undef) (hd : dok n o.dst = true) (k : TL P n ops Q l (dpush o.dst Go.undef ρ) L) : TL P n ops Q (o :: l) ρ L := .skip (.undef hg hj hv) hd k
end
section
variable {ops : Array Oper} {R W : List Frag} {K : Nat → Nat} {Q : Post} {i : Nat} {l : List Nat} {o : Oper} {ρ : Regs} {ph : Bool} {L : List Frag}
theorem TD.un {j t : Nat} {want : Bool} (hi : ops[i]? = some o) (hg : o.guard = some (j, want)) (hj : (ops[j]?).bind (·.dst) = some t) (hv : rget ρ t = some Go.undef) (hd : dok n o.dst = true) (k : TD P n ops R W K Q l (dpush o.dst Go.undef ρ) ph L) : TD P n ops R W K Q (i :: l) ρ ph L := .no hi (.undef hg hj hv) hd k
end
end Go.SL
