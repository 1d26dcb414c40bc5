/- A part of proofs about the given program. No condition. -/
import Derived.Test.YtcgfdjijodlopaaGreatEb
import Derived.ProofKit
import Derived.OpenShut
import Derived.WideKeyArgs
import Derived.Deep.Slices
set_option linter.all false
/- A row's frame: arguments that are numbers, and rows of numbers; memory that stays. -/
namespace Go.SL
open Go Go.ChangeShapes Go.WideShapes Go.ChangeAt Go.RowKit
variable {H : Type} {enc : TypeId × Value → H} {P : Program}

/-- a type whose cells are numbers -/
inductive IntsT (P : Program) : TypeId → Prop
  | int {t : TypeId} (h : P.underlying t = some (.int .i64)) : IntsT P t
  | arr {t n e : TypeId} (h : P.underlying t = some (.array n e)) (he : IntsT P e) (hc : P.cellsOf t = n * P.cellsOf e) : IntsT P t
  | str {t : TypeId} {fs : Array Field} (h : P.underlying t = some (.struct fs)) (hf : ∀ f ∈ fs.toList, IntsT P f.type) (hc : ∀ j, j < P.cellsOf t → ∃ f ∈ fs.toList, f.offset ≤ j ∧ j < f.offset + P.cellsOf f.type) : IntsT P t
def IntOk (v : Value) : Prop := ∃ i : Int, v = .int .i64 i ∧ -9223372036854775808 ≤ i ∧ i ≤ 9223372036854775807

theorem mapM_all {α β : Type} {g : α → Option β} : ∀ {l : List α} {ys : List β}, l.mapM g = some ys → ∀ x ∈ l, ∃ y, g x = some y
  | [], _, _, x, hx => by cases hx
  | a :: l, ys, h, x, hx => by
    rw [List.mapM_cons] at h
    simp only [bind, Option.bind_eq_some_iff, pure, Option.some.injEq] at h
    obtain ⟨y, hy, ys', hys, _⟩ := h
    rcases List.mem_cons.1 hx with rfl | hx
    · exact ⟨y, hy⟩
    · exact mapM_all hys x hx

theorem IntsT.trod {t : TypeId} (ht : IntsT P t) : ∀ {w : World} {base : Nat} {sp : Nat → Bool} {held : Bool} {fuel : Nat} {cs : List Value} {x : DataW H × List MemPlace}, DataW.trod enc P w base sp held fuel t cs = some x → ∀ v ∈ cs, IntOk v := by
  induction ht with
  | int h =>
    intro w base sp held fuel cs x hx v hv
    cases fuel with
    | zero => simp [DataW.trod] at hx
    | succ fuel =>
      unfold DataW.trod at hx
      rw [h] at hx
      rcases cs with _ | ⟨c, _ | ⟨d, cs⟩⟩
      · simp at hx
      · cases c <;> simp at hx
        rename_i k n
        obtain ⟨⟨rfl, hw⟩, _⟩ := hx
        simp only [List.mem_singleton] at hv
        subst hv
        refine ⟨n, rfl, ?_⟩
        simpa [Lit.wf, IntKind.min, IntKind.max, IntKind.signed, IntKind.bits] using hw
      · simp at hx
  | @arr t n e h he hc ih =>
    intro w base sp held fuel cs x hx v hv
    cases fuel with
    | zero => simp [DataW.trod] at hx
    | succ fuel =>
      unfold DataW.trod at hx
      rw [h] at hx
      simp only at hx
      split at hx
      · rename_i hlen
        obtain ⟨ys, hys, _⟩ := Option.map_eq_some_iff.1 hx
        obtain ⟨j, hj⟩ := List.mem_iff_getElem?.1 hv
        have hjl : j < cs.length := (List.getElem?_eq_some_iff.1 hj).1
        have hce : 0 < P.cellsOf e := by
          rcases Nat.eq_zero_or_pos (P.cellsOf e) with h0 | h0
          · rw [hlen, hc, h0, Nat.mul_zero] at hjl; omega
          · exact h0
        have hq : j / P.cellsOf e < n := by
          rw [Nat.div_lt_iff_lt_mul hce, ← hc, ← hlen]; exact hjl
        obtain ⟨y, hy⟩ := mapM_all hys (j / P.cellsOf e) (List.mem_range.2 hq)
        refine ih hy v (List.mem_iff_getElem?.2 ⟨j % P.cellsOf e, ?_⟩)
        rw [List.getElem?_take, if_pos (Nat.mod_lt _ hce), List.getElem?_drop, Nat.mul_comm, Nat.div_add_mod]
        exact hj
      · cases hx
  | @str t fs h hf hc ih =>
    intro w base sp held fuel cs x hx v hv
    cases fuel with
    | zero => simp [DataW.trod] at hx
    | succ fuel =>
      unfold DataW.trod at hx
      rw [h] at hx
      simp only at hx
      split at hx
      · rename_i hlen
        obtain ⟨ys, hys, _⟩ := Option.map_eq_some_iff.1 hx
        obtain ⟨j, hj⟩ := List.mem_iff_getElem?.1 hv
        have hjl : j < cs.length := (List.getElem?_eq_some_iff.1 hj).1
        obtain ⟨f, hfm, h1, h2⟩ := hc j (by rw [← hlen]; exact hjl)
        obtain ⟨y, hy⟩ := mapM_all hys f hfm
        refine ih f hfm hy v (List.mem_iff_getElem?.2 ⟨j - f.offset, ?_⟩)
        rw [List.getElem?_take, if_pos (by omega), List.getElem?_drop, show f.offset + (j - f.offset) = j by omega]
        exact hj
      · cases hx

/-- numbers, as such -/
theorem ints_of : ∀ {cs : List Value}, (∀ v ∈ cs, IntOk v) → ∃ is : List Int, cs = is.map (.int .i64 ·) ∧ ∀ i ∈ is, -9223372036854775808 ≤ i ∧ i ≤ 9223372036854775807
  | [], _ => ⟨[], rfl, fun _ h => by cases h⟩
  | v :: cs, h => by
    obtain ⟨i, rfl, hi⟩ := h v (List.mem_cons_self ..)
    obtain ⟨is, rfl, his⟩ := ints_of (cs := cs) (fun x hx => h x (List.mem_cons_of_mem _ hx))
    exact ⟨i :: is, rfl, fun x hx => by rcases List.mem_cons.1 hx with rfl | hx; exact hi; exact his x hx⟩

/-- all that is there at a call's beginning -/
def All (w : World) : Frag := fun b => w.heap[b]?
theorem All.sat (w : World) : Sat w ([All w] ++ []) := ⟨fun r hr b o hb => by
  simp only [List.append_nil, List.mem_singleton] at hr; subst hr; exact hb, by simp⟩
theorem All.below {w w' : World} (hs : Sat w' ([All w] ++ [])) (hk : Keep w w') : Below w.heap.size w w' :=
  ⟨hk.os, hk.tape, hk.output, hk.size, fun k hlt => by
    have := hs.sub (All w) (List.mem_cons_self ..) k w.heap[k] (by simp [All, hlt])
    rw [this, Array.getElem?_eq_getElem hlt]⟩
/-- a call that only reads what was there -/
theorem FnR.call {f : Nat} {args : List Value} {w : World} {φ : Value → Prop} (h : FnR P f args (All w) φ) : Calls P f args.toArray w fun e w' => ∃ v, e = .returned v ∧ φ v ∧ Below w.heap.size w w' :=
  (h w [] (All.sat w)).mono fun e w' ⟨v, L', h1, ⟨h2, h3⟩, h4, h5⟩ => ⟨v, h1, h2, by subst h3; exact All.below h4 h5⟩

/-- a slice of whole elements that are numbers -/
theorem open_rows {t e : TypeId} {k : Nat} {w : World} {a0 : Option Addr} {len cap fuel : Nat} {x : DataW H × List MemPlace} (ht : P.underlying t = some (.slice e)) (he : IntsT P e) (hk : P.cellsOf e = k) (hk0 : 0 < k)
    (h : DataW.trod enc P w 0 (fun _ => true) true fuel t [.slice a0 len cap] = some x) :
    ∃ es : List (List Value), es.length = len ∧ Rd (All w) a0 k es ∧ (∀ e ∈ es, ∀ v ∈ e, IntOk v) ∧ len ≤ 9223372036854775807 := by
  subst hk
  rcases Go.Deep.open_slice ht h with ⟨h0, _⟩ | ⟨a, len', cap', m, n, D, Pl, hcs, _, hl, hm, hmm, _, hel⟩
  · simp only [List.cons.injEq, Value.slice.injEq, and_true] at h0
    obtain ⟨rfl, rfl, rfl⟩ := h0
    exact ⟨[], rfl, ⟨fun _ h => (by cases h), fun _ h => (by cases h), .inl rfl⟩, fun _ h => (by cases h), by omega⟩
  · simp only [List.cons.injEq, Value.slice.injEq, and_true] at hcs
    obtain ⟨rfl, rfl, rfl⟩ := hcs
    simp only [if_true] at hmm
    have hall : ∀ i, i < len → ∃ cs', w.cells? 0 (a.add (i * P.cellsOf e)) (P.cellsOf e) = some cs' ∧ DataW.trod enc P w 0 (fun _ => true) true n e cs' = some (D i, Pl i) := fun i hi => hel i (by omega)
    have hch : ∃ C : Nat → List Value, ∀ i, i < len → w.cells? 0 (a.add (i * P.cellsOf e)) (P.cellsOf e) = some (C i) ∧ DataW.trod enc P w 0 (fun _ => true) true n e (C i) = some (D i, Pl i) := by
      refine ⟨fun i => (w.cells? 0 (a.add (i * P.cellsOf e)) (P.cellsOf e)).getD [], fun i hi => ?_⟩
      obtain ⟨cs', h1, h2⟩ := hall i hi
      simp only [h1, Option.getD_some]; exact ⟨trivial, h2⟩
    obtain ⟨C, hC⟩ := hch
    have hget : ∀ {i : Nat} {u : List Value}, ((List.range len).map C)[i]? = some u → i < len ∧ u = C i := fun {i} {u} hu => by
      rw [List.getElem?_map] at hu
      obtain ⟨j, hj, rfl⟩ := Option.map_eq_some_iff.1 hu
      have := List.getElem?_eq_some_iff.1 hj
      obtain ⟨h1, h2⟩ := this
      simp only [List.length_range] at h1
      rw [List.getElem_range] at h2
      subst h2; exact ⟨h1, rfl⟩
    have hlen : ∀ u ∈ (List.range len).map C, u.length = P.cellsOf e := fun u hu => by
      obtain ⟨i, hi⟩ := List.mem_iff_getElem?.1 hu
      obtain ⟨h1, rfl⟩ := hget hi
      exact (World.cells?_some (hC i h1).1).2.1
    have hint : ∀ u ∈ (List.range len).map C, ∀ v ∈ u, IntOk v := fun u hu => by
      obtain ⟨i, hi⟩ := List.mem_iff_getElem?.1 hu
      obtain ⟨h1, rfl⟩ := hget hi
      exact he.trod (hC i h1).2
    refine ⟨(List.range len).map C, by simp, ⟨hlen, fun u hu v hv => ?_, ?_⟩, hint, by unfold maxLen at hm; omega⟩
    · obtain ⟨i, rfl, _⟩ := hint u hu v hv; rfl
    · rcases Nat.eq_zero_or_pos len with h0 | h0
      · left; subst h0; rfl
      · right
        have hc0 := (World.cells?_some (hC 0 h0).1).2
        obtain ⟨v0, hv0⟩ : ∃ v, (C 0)[0]? = some v := ⟨_, List.getElem?_eq_getElem (by omega)⟩
        have h00 : w.cell? a = some v0 := by
          have := hc0.2 0 hk0
          rw [hv0, Nat.zero_mul] at this
          simpa [Addr.add] using this
        have hsp := World.cell?_spot h00
        obtain ⟨b, o, sp⟩ := a
        simp only at hsp
        subst hsp
        obtain ⟨cs, T, fr, hb⟩ : ∃ cs T fr, w.heap[b]? = some (.cells cs T fr) := by
          unfold World.cell? at h00
          simp only at h00
          split at h00
          · rename_i c T fr hh; exact ⟨c, T, fr, hh⟩
          · cases h00
        refine ⟨b, o, cs, T, fr, rfl, hb, fun j v hv => ?_⟩
        have hjl := (List.getElem?_eq_some_iff.1 hv).1
        rw [flatten_len hlen, List.length_map, List.length_range] at hjl
        have hi : j / P.cellsOf e < len := by rw [Nat.div_lt_iff_lt_mul hk0]; exact hjl
        have hr := Nat.mod_lt j hk0
        have hCi := (World.cells?_some (hC _ hi).1).2
        have hg : ((List.range len).map C)[j / P.cellsOf e]? = some (C (j / P.cellsOf e)) := by
          rw [List.getElem?_map, List.getElem?_range hi]; rfl
        obtain ⟨u, hu⟩ : ∃ u, (C (j / P.cellsOf e))[j % P.cellsOf e]? = some u := ⟨_, List.getElem?_eq_getElem (by omega)⟩
        have h1 := flatten_get hlen hg hu
        have hjj : j / P.cellsOf e * P.cellsOf e + j % P.cellsOf e = j := by rw [Nat.mul_comm]; exact Nat.div_add_mod j _
        rw [hjj, hv] at h1
        injection h1 with h1
        subst h1
        have h2 := hCi.2 _ hr
        rw [hu, Addr.add_none, Addr.add_none, show o + j / P.cellsOf e * P.cellsOf e + j % P.cellsOf e = o + j by omega] at h2
        rw [cell_of_row w b (o + j) cs T fr hb] at h2
        exact h2
end Go.SL
namespace Go.SL
open Go Go.ChangeShapes Go.WideShapes Go.ChangeAt Go.RowKit
variable {H : Type} {enc : TypeId × Value → H} {P : Program}
theorem IntsT.str' {t : TypeId} {fs : Array Field} (h : P.underlying t = some (.struct fs)) (hf : ∀ f ∈ fs.toList, IntsT P f.type)
    (hc : ((List.range (P.cellsOf t)).all fun j => fs.toList.any fun f => decide (f.offset ≤ j) && decide (j < f.offset + P.cellsOf f.type)) = true) : IntsT P t := .str h hf fun j hj => by
  have := List.all_eq_true.1 hc j (List.mem_range.2 hj)
  obtain ⟨f, hf1, hf2⟩ := List.any_eq_true.1 this
  simp only [Bool.and_eq_true, decide_eq_true_eq] at hf2
  exact ⟨f, hf1, hf2⟩
theorem trodAll_stays (hl : laidOutB P = true) {W W' : World} (hb : Below W.heap.size W W') {sp : Nat → Bool} : ∀ {ts : List TypeId} {vs : List Value} {ds : List (DataW H)} {ps : List MemPlace}, (∀ t ∈ ts, P.readableRec t = true ∧ t < P.types.size) →
    DataW.TrodAll enc P W 0 (fun _ => true) true ts vs ds ps → (∀ x ∈ ps, x.block < W.heap.size) → (∀ p ∈ ps, sp p.block = true) → DataW.TrodAll enc P W' 0 sp true ts vs ds ps
  | [], [], [], _, _, h, _, _ => h
  | t :: ts, v :: vs, d :: ds, ps, ht, ⟨p, q, h1, h2, h3⟩, hlt, hs => by
    subst h3
    exact ⟨p, q, WideElems.Trod_stays hl (ht t (List.mem_cons_self ..)).1 (ht t (List.mem_cons_self ..)).2 h1 (fun x hx => hb.same (hlt x (List.mem_append_left _ hx))) (fun x hx => hs x (List.mem_append_left _ hx)),
      trodAll_stays hl hb (fun u hu => ht u (List.mem_cons_of_mem _ hu)) h2 (fun x hx => hlt x (List.mem_append_right _ hx)) (fun x hx => hs x (List.mem_append_right _ hx)), rfl⟩
  | [], [], _ :: _, _, _, h, _, _ => h.elim
  | [], _ :: _, _, _, _, h, _, _ => h.elim
  | _ :: _, [], _, _, _, h, _, _ => h.elim
  | _ :: _, _ :: _, [], _, _, h, _, _ => h.elim
/-- a call that tells a truth value, and leaves all as it was -/
theorem post_read {f : Func} {s : ChangeSpec} {W W' : World} {args : Array Value} {b : Bool} {tb : TypeId} {ds gs : List (DataW H)} {before : List MemPlace}
    (hW : DataW.Whole enc P f.params.toList s.vars false W args.toList ds gs before) (hl : laidOutB P = true) (hb : Below W.heap.size W W') (hty : ∀ t ∈ f.params.toList, P.readableRec t = true ∧ t < P.types.size)
    (hvars : s.vars = []) (hr : f.resultTypes = #[tb]) (hub : P.underlying tb = some .bool) (hfn : s.fn H (ds ++ gs) = { results := [.lit (.bool b)], args := ds }) : s.post enc P f false true false false W args (.bool b) W' := by
  have hW2 := hW
  obtain ⟨p, q, hA, hV, hpq, _, _⟩ := hW2
  rw [hvars] at hV
  obtain ⟨rfl, rfl⟩ := trodVars_none hV
  rw [List.append_nil] at hpq
  subst hpq
  refine ⟨ds, [], before, [], before, [], hW, ?_, ?_, ?_, hb.frame _, fun h => by cases h⟩
  · rw [hfn, hr]
    exact trodAll_mk1 (shut_bool hub b)
  · rw [hfn]
    exact trodAll_stays hl hb hty hA (fun x hx => hA.lt x hx) (fun x hx => by simpa using hA.lt x hx)
  · rw [hfn, hvars]; rfl
end Go.SL
