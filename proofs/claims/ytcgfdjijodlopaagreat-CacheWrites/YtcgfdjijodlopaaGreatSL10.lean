/- A part of proofs about the given program. No condition. -/
import Derived.Test.YtcgfdjijodlopaaGreatSL9
set_option linter.all false
/- Drawn regions that change what they read ahead; slices that are made; copies. -/
namespace Go.SL
open Go.RowKit
variable {P : Program} {n : Nat}
section
variable {ops : Array Oper} {W : List Frag} {K : Nat → Nat} {Q : Post} {i : Nat} {l : List Nat} {o : Oper} {ρ : Regs}
theorem TC.drawW {id : Nat} {L : List Frag} (ks c : List Nat) (hm : P.follows .mixedOrders = true) (hchk : chk ops ks c = true) (h4 : Nat.blt (ks.foldl max 0) 4 = true)
    (h : TD P n ops [] L (kof ks) Q c ρ false []) : TC P n Q (.region id ops true) ρ L := TC.draw ks c hm hchk (fun j o _ hk => by
  exfalso
  have hmax : ∀ (l : List Nat) (a : Nat), a ≤ l.foldl max a ∧ ∀ x ∈ l, x ≤ l.foldl max a := by
    intro l
    induction l with
    | nil => intro a; exact ⟨Nat.le_refl _, fun _ h => (by cases h)⟩
    | cons y l ih =>
      intro a
      have := ih (max a y)
      refine ⟨by simp only [List.foldl_cons]; omega, fun x hx => ?_⟩
      simp only [List.foldl_cons]
      rcases List.mem_cons.1 hx with rfl | hx
      · omega
      · exact this.2 x hx
  have hj : kof ks j ∈ ks := by
    unfold kof at hk ⊢
    rw [List.getD_eq_getElem?_getD] at hk ⊢
    cases hg : ks[j]? with
    | none => simp [hg] at hk
    | some x => simp; exact List.mem_of_getElem? hg
  have := (hmax ks 0).2 _ hj
  simp [Nat.blt] at h4; omega) (.refl _) h
theorem TD.r {v : Value} {L : List Frag} (hi : ops[i]? = some o) (hK : K i = 1) (h : LD P ρ W o v) (hg : o.guard = none) (hd : dok n o.dst = true) (k : TD P n ops [] W K Q l (dpush o.dst v ρ) false L) : TD P n ops [] W K Q (i :: l) ρ false L := .rd hi hK h (.un hg) hd k
theorem TD.ry {v : Value} {j t : Nat} {want b : Bool} {L : List Frag} (hi : ops[i]? = some o) (hK : K i = 1) (h : LD P ρ W o v) (hb : b = want) (hg : o.guard = some (j, want)) (hj : (ops[j]?).bind (·.dst) = some t) (hv : rget ρ t = some (.bool b)) (hd : dok n o.dst = true) (k : TD P n ops [] W K Q l (dpush o.dst v ρ) false L) : TD P n ops [] W K Q (i :: l) ρ false L := .rd hi hK h (.yes hg hj hv hb) hd k
/-- the first change: what lay there, and what was laid -/
theorem TD.cwF {f : Nat} {args : List Value} {r : Frag} {j : Nat} {φ : Value → Frag → Prop} {L : List Frag} (hi : ops[i]? = some o) (hK : K i = 2) (hc : CL P ρ o f args) (hf : FnW P f args r φ) (hj : (L ++ W)[j]? = some r) (hw : Wants n ops ρ o true) (hd : dok n o.dst = true)
    (k : ∀ v r', φ v r' → TD P n ops [] W K Q l (dpush o.dst v ρ) true ((L ++ W).set j r')) : TD P n ops [] W K Q (i :: l) ρ false L :=
  TD.cl hi hK hc hf (F := (L ++ W).eraseIdx j) (show (W ++ L).Perm _ from (List.perm_append_comm (l₁ := W) (l₂ := L)).trans (perm_get hj)) hw hd fun v L' ⟨r', h1, h2⟩ => by subst h2; exact ⟨_, (perm_set r' (List.getElem?_eq_some_iff.1 hj).1).symm, k v r' h1⟩
/-- a change behind it -/
theorem TD.cwT {f : Nat} {args : List Value} {r : Frag} {j : Nat} {φ : Value → Frag → Prop} {L : List Frag} (hi : ops[i]? = some o) (hK : K i = 2) (hc : CL P ρ o f args) (hf : FnW P f args r φ) (hj : L[j]? = some r) (hw : Wants n ops ρ o true) (hd : dok n o.dst = true)
    (k : ∀ v r', φ v r' → TD P n ops [] W K Q l (dpush o.dst v ρ) true (L.set j r')) : TD P n ops [] W K Q (i :: l) ρ true L :=
  TD.cl hi hK hc hf (F := L.eraseIdx j) (perm_get hj) hw hd fun v L' ⟨r', h1, h2⟩ => by subst h2; exact ⟨_, (perm_set r' (List.getElem?_eq_some_iff.1 hj).1).symm, k v r' h1⟩
theorem TD.nilF {y : Code} {Q : Post} {L : List Frag} (k : TC P n Q y ρ (L ++ W)) : TD P n ops [] W K (Post.seq (TC P n Q y) Q) [] ρ false L := TD.nil (show TC P n Q y ρ (W ++ L) from TC.perm (List.perm_append_comm (l₁ := W) (l₂ := L)) k)
theorem TD.nilC {y : Code} {Q : Post} {L : List Frag} (k : TC P n Q y ρ L) : TD P n ops [] W K (Post.seq (TC P n Q y) Q) [] ρ true L := TD.nil k
end
section
variable {ρ : Regs} {L : List Frag} {d : Option Tmp} {t : TypeId} {p : String} {af : Array Edge} {g : Option (Nat × Bool)}
theorem NB.mkS {T e bytes : Nat} {z : Value} [hT : SliceT P T e 1] [hE : ElemT P e 1 bytes z] {x y : Operand} {m : Nat} (h1 : z.oneCell' = true) (hx : rev ρ x = some (.int .i64 (m : Int))) (hy : rev ρ y = some (.int .i64 (m : Int))) (hm : m ≤ 1000000 ∧ bytes ≤ 1000) :
    NB P ρ L ⟨d, .makeSlice T x y, t, p, af, g⟩ e (List.replicate m z).toArray (fun b => .slice (some ⟨b, 0, none⟩) m m) := fun n a w hr _ => by
  obtain ⟨i, i1, i2, i3, i4⟩ := hE.info
  have hb : (i.bytes : Int) * (m : Int) ≤ 281474976710656 := by
    rw [i3]
    have : bytes * m ≤ 1000 * 1000000 := Nat.mul_le_mul hm.2 hm.1
    omega
  have := run_makeSlice (P := P) w T e i z hT.und i1 i4 .i64 .i64 (m : Int) (m : Int) (by omega) (by omega) (by rw [i2]; simp; omega) hb (by omega)
  have hz : z.cells = #[z] := by cases z <;> first | rfl | cases h1
  have hmc : madeCells z.cells (((m : Int)).toNat * i.size) = (List.replicate m z).toArray := by
    rw [i2, hz]
    apply Array.ext'
    simp only [madeCells, Int.toNat_natCast, Nat.mul_one]
    apply List.ext_getElem
    · simp
    · intro j h1 h2; simp [Nat.mod_one]
  rw [hmc] at this
  simp only [execOp, hr.eval hx, hr.eval hy, Sem.run_bind, this, Result.andThen_ok]
  simp
end
theorem Ent.nof : Ent [] [nof] := fun _ _ h => h.nof
theorem Ent.drop (L : List Frag) : Ent L [] := fun _ F h => h.of_sublist (List.sublist_append_right L F)
theorem neq_dis {p b : Nat} {T U : TypeId} {cs ds : Array Value} {L : List Frag} (h : (blk p T cs :: blk b U ds :: L).Pairwise Disj) : p ≠ b := ne_of_disj ((List.pairwise_cons.1 h).1 _ (.head _))
theorem Ent.foldT (l X : List Frag) : Ent (l ++ X) [un l] := fun w F h => by
  have h1 : Sat w (l ++ (X ++ F)) := by rwa [← List.append_assoc]
  exact (Sat.of_sublist h1 (List.Sublist.append_left (List.sublist_append_right X F) l)).fold
section
variable {ρ : Regs} {L : List Frag} {d : Option Tmp} {t : TypeId} {p : String} {af : Array Edge} {g : Option (Nat × Bool)}
theorem eqi_snil {t e : TypeId} (hu : P.underlying t = some (.slice e)) (q : Option Addr) (m c : Nat) (d : Nat) (w : World) : (Op.equalIn (d + 1) t (.slice q m c) (.slice none 0 0)).run P w = .ok q.isNone w := by
  cases q <;> simp [Op.equalIn, run_underlying hu]
theorem LD.sNil {x y : Operand} {tx ty e : TypeId} {q : Option Addr} {m c : Nat} (hx : rev ρ x = some (.slice q m c)) (hy : rev ρ y = some (.slice none 0 0)) (hu : P.underlying tx = some (.slice e)) : LD P ρ L ⟨d, .binOp .eql tx x y ty, t, p, af, g⟩ (.bool q.isNone) :=
  LD.bin hx hy (fun x y w => by unfold eqGuard; simp) fun w => by
    have h := eqi_snil hu q m c 9999 w
    simp only [binOp]
    simp only [Op.equal, Op.maxDepth, Sem.run_bind, h, Result.andThen_ok]; rfl
theorem LD.sNilN {x y : Operand} {tx ty e : TypeId} {q : Option Addr} {m c : Nat} (hx : rev ρ x = some (.slice q m c)) (hy : rev ρ y = some (.slice none 0 0)) (hu : P.underlying tx = some (.slice e)) : LD P ρ L ⟨d, .binOp .neq tx x y ty, t, p, af, g⟩ (.bool (!q.isNone)) :=
  LD.bin hx hy (fun x y w => by unfold eqGuard; simp) fun w => by
    have h := eqi_snil hu q m c 9999 w
    simp only [binOp]
    simp only [Op.equal, Op.maxDepth, Sem.run_bind, h, Result.andThen_ok]; rfl
end
section
variable {ρ : Regs} {L : List Frag} {d : Option Tmp} {t : TypeId} {p : String} {af : Array Edge} {gd : Option (Nat × Bool)}
theorem EF.copy1 {T1 T2 e bytes : Nat} {z : Value} [hT : SliceT P T1 e 1] [hE : ElemT P e 1 bytes z] {x y : Operand} {g o sb so dl dc sl sc i : Nat} {T : TypeId} {cur cs : List Value} {r : Frag} {rc : Array Value} {rT : TypeId} {rf : Nat × Nat} (hx : rev ρ x = some (.slice (some ⟨g, o, none⟩) dl dc)) (hy : rev ρ y = some (.slice (some ⟨sb, so, none⟩) sl sc))
    (hi : L[i]? = some (blk g T cur.toArray)) (hr : r ∈ L) (hb : r sb = some (.cells rc rT rf)) (hn : cs.length = Nat.min sl dl) (hc : ∀ j v, cs[j]? = some v → rc[so + j]? = some v) (hfit : o + cs.length ≤ cur.length) (h1 : ∀ v ∈ cs, v.oneCell' = true) :
    EF P ρ L ⟨d, .call ⟨.builtin .copy, #[x, y], #[T1, T2]⟩, t, p, af, gd⟩ (.int .i64 cs.length) (L.set i (blk g T (cur.take o ++ cs ++ cur.drop (o + cs.length)).toArray)) := fun n a w ha hs => by
  obtain ⟨inf, i1, i2, i3, i4⟩ := hE.info
  have hw : w.heap[g]? = some (.cells cur.toArray T (0, 0)) := mem_heap hs (List.mem_of_getElem? hi) (blk_same g T _)
  have hrw := mem_heap hs hr hb
  have := run_copy_row (P := P) w T1 T2 t e g o dl dc ⟨sb, so, none⟩ sl sc cur.toArray T cs hT.und (by rw [i1]; simp [i2]) hw hn (fun j v hv => by
    rw [Addr.add_none, cell_of_row w sb _ rc rT rf hrw]; exact hc j v hv) (by simpa using hfit) h1
  refine ⟨_, .inl ?_, hs.rowAt hi _, Keep.setRow w _ _⟩
  simp only [execOp, resolve, invoke, builtin, Sem.run_bind, Sem.run_pure, Result.andThen_ok]
  have e2 : (#[x, y] : Array Operand).map a.eval = #[.slice (some ⟨g, o, none⟩) dl dc, .slice (some ⟨sb, so, none⟩) sl sc] := by simp [ha.eval hx, ha.eval hy]
  simp only [e2, this, Result.andThen_ok]
  simp [goInt]
end
section
variable {ρ : Regs} {L : List Frag} {d : Option Tmp} {t : TypeId} {p : String} {af : Array Edge} {g : Option (Nat × Bool)}
theorem LD.sliceArr {T e k n b o : Nat} [hs : ArrT P T n e k] {x : Operand} {lo hi : Option Operand} {l h : Int} (hx : rev ρ x = some (.pointer (some ⟨b, o, none⟩)))
    (hl : match lo with | none => l = 0 | some y => rev ρ y = some (.int .i64 l)) (hh : match hi with | none => h = n | some y => rev ρ y = some (.int .i64 h)) (h1 : 0 ≤ l ∧ l ≤ h ∧ h ≤ n) :
    LD P ρ L ⟨d, .slice T x lo hi none, t, p, af, g⟩ (.slice (some ⟨b, if (n : Int) = l then o else o + l.toNat * k, none⟩) (h.toNat - l.toNat) (n - l.toNat)) := fun m a w hr _ => by
  have key : ∀ (lv hv : Option Value), lv = lo.map a.eval → hv = hi.map a.eval → (Instr.sliceBounds false n n lv hv none).run P w = .ok (l.toNat, h.toNat, n) w := by
    rintro _ _ rfl rfl
    unfold Instr.sliceBounds
    cases hi with
    | none =>
      subst hh
      cases lo with
      | none => subst hl; simp
      | some y => simp [hr.eval hl, Instr.sliceBound, asIntOf, h1.1, h1.2.1]
    | some z =>
      have hz : 0 ≤ h ∧ h ≤ n := ⟨by omega, h1.2.2⟩
      cases lo with
      | none => subst hl; simp [hr.eval hh, Instr.sliceBound, asIntOf, hz]
      | some y =>
        simp [hr.eval hl, hr.eval hh, Instr.sliceBound, asIntOf, hz, h1.1]
        intro hm; omega
  have hc : (n = l.toNat) ↔ ((n : Int) = l) := by omega
  have k2 := key _ _ rfl rfl
  simp only [execOp, Instr.sliceAt, Option.map_none, hr.eval hx, Sem.run_bind, run_underlying hs.und, Result.andThen_ok, Instr.sureAddr, Sem.run_pure, k2, hs.size, hc, Addr.add_none]
  split <;> rfl
end
section
variable {ρ : Regs} {L : List Frag} {d : Option Tmp} {t : TypeId} {p : String} {af : Array Edge} {g : Option (Nat × Bool)}
theorem lrep_flat (z : List Value) : ∀ m : Nat, lrep m z = (List.replicate m z).flatten
  | 0 => rfl
  | m + 1 => by rw [lrep, lapp_eq, lrep_flat z m, List.replicate_succ, List.flatten_cons]
theorem NB.mkSk {T e k bytes : Nat} {zl : List Value} [hT : SliceT P T e k] [hE : ElemT P e k bytes (.agg zl.toArray)] {x y : Operand} {m : Nat} (hx : rev ρ x = some (.int .i64 (m : Int))) (hy : rev ρ y = some (.int .i64 (m : Int))) (hm : m ≤ 10000 ∧ bytes ≤ 10000 ∧ k ≤ 1000) :
    NB P ρ L ⟨d, .makeSlice T x y, t, p, af, g⟩ e ((List.replicate m zl).flatten).toArray (fun b => .slice (some ⟨b, 0, none⟩) m m) := fun n a w hr _ => by
  obtain ⟨i, i1, i2, i3, i4⟩ := hE.info
  have hk : zl.length = k := by have := hE.zlen; simpa [Value.cells] using this
  have hb : (i.bytes : Int) * (m : Int) ≤ 281474976710656 := by
    rw [i3]
    have : bytes * m ≤ 10000 * 10000 := Nat.mul_le_mul hm.2.1 hm.1
    omega
  have hmk : m * k ≤ 10000 * 1000 := Nat.mul_le_mul hm.1 hm.2.2
  have := run_makeSlice (P := P) w T e i (.agg zl.toArray) hT.und i1 i4 .i64 .i64 (m : Int) (m : Int) (by omega) (by omega) (by rw [i2]; simp; omega) hb (by omega)
  have hmc : madeCells (Value.agg zl.toArray).cells (((m : Int)).toNat * i.size) = ((List.replicate m zl).flatten).toArray := by
    rw [i2, ← lrep_flat, ← range_rep zl m, hk]
    apply Array.ext'
    simp [madeCells, Value.cells, hk]
  rw [hmc] at this
  simp only [execOp, hr.eval hx, hr.eval hy, Sem.run_bind, this, Result.andThen_ok]
  simp
/-- x[l:h:m] -/
theorem LD.sliceM {T e k n c : Nat} [hs : SliceT P T e k] {x y z u : Operand} {b o : Nat} {l h m : Int} (hx : rev ρ x = some (.slice (some ⟨b, o, none⟩) n c))
    (hl : rev ρ y = some (.int .i64 l)) (hh : rev ρ z = some (.int .i64 h)) (hm : rev ρ u = some (.int .i64 m)) (h1 : 0 ≤ l ∧ l ≤ h ∧ h ≤ m ∧ m ≤ c) (hne : l < m) :
    LD P ρ L ⟨d, .slice T x (some y) (some z) (some u), t, p, af, g⟩ (.slice (some ⟨b, o + l.toNat * k, none⟩) (h.toNat - l.toNat) (m.toNat - l.toNat)) := fun q a w hr _ => by
  have key : (Instr.sliceBounds true n c (some (a.eval y)) (some (a.eval z)) (some (a.eval u))).run P w = .ok (l.toNat, h.toNat, m.toNat) w := by
    unfold Instr.sliceBounds
    have g1 : 0 ≤ m ∧ m ≤ c := ⟨by omega, h1.2.2.2⟩
    have g2 : 0 ≤ h ∧ h ≤ ((m.toNat : Nat) : Int) := ⟨by omega, by omega⟩
    have g3 : 0 ≤ l ∧ l ≤ ((h.toNat : Nat) : Int) := ⟨by omega, by omega⟩
    simp only [hr.eval hl, hr.eval hh, hr.eval hm, Instr.sliceBound, asIntOf, Sem.run_bind, Sem.run_pure, Result.andThen_ok, g1, g2, g3, and_self, if_true]
  have hc : ¬ (m.toNat = l.toNat) := by omega
  simp only [execOp, Instr.sliceAt, Option.map_some, hr.eval hx, Sem.run_bind, run_underlying hs.und, Result.andThen_ok, Instr.slice, key, hs.size, if_neg hc]
  simp [Addr.add_none]
end
section
variable {ρ : Regs} {L : List Frag} {d : Option Tmp} {t : TypeId} {p : String} {af : Array Edge} {g : Option (Nat × Bool)}
theorem LD.ld1f {ty : TypeId} [One P ty] {x : Operand} {b o : Nat} {r : Frag} {l : List Value} {T : TypeId} {fr : Nat × Nat} {v : Value} (hx : rev ρ x = some (.pointer (some ⟨b, o, none⟩)))
    (hr : r ∈ L) (hb : r b = some (.cells l.toArray T fr)) (hc : lget l o = some v) : LD P ρ L ⟨d, .load ty x, t, p, af, g⟩ v := LD.load1f hx hr hb (by rw [lget_eq] at hc; simpa using hc)
theorem LD.ldAf {ty : TypeId} {k : Nat} [Agg P ty (k + 1)] {x : Operand} {b o : Nat} {r : Frag} {l vs : List Value} {T : TypeId} {fr : Nat × Nat} (hx : rev ρ x = some (.pointer (some ⟨b, o, none⟩)))
    (hr : r ∈ L) (hb : r b = some (.cells l.toArray T fr)) (hv : Fo (lsl o (k + 1) l) vs) (hk : Nat.beq (llen vs) (k + 1) = true) : LD P ρ L ⟨d, .load ty x, t, p, af, g⟩ (.agg vs.toArray) := by
  have hv := hv.eq
  have hk := Nat.eq_of_beq_eq_true hk
  rw [llen_eq] at hk
  rw [lsl_eq] at hv
  have hlen : o + (k + 1) ≤ l.length := by
    have : ((l.drop o).take (k + 1)).length = k + 1 := by rw [hv, hk]
    rw [List.length_take, List.length_drop] at this; omega
  refine LD.loadAf hx hr hb (by simpa using hlen) ?_
  rw [← hv]; simp
end
theorem LV.aggL {L : List Frag} {ty : TypeId} {k : Nat} [Agg P ty (k + 1)] {b o : Nat} {l vs : List Value} {T : TypeId} (hr : blk b T l.toArray ∈ L) (hv : Fo (lsl o (k + 1) l) vs) (hk : Nat.beq (llen vs) (k + 1) = true) : LV P L ty ⟨b, o, none⟩ (.agg vs.toArray) := by
  have hv := hv.eq
  have hk := Nat.eq_of_beq_eq_true hk
  rw [llen_eq] at hk
  rw [lsl_eq] at hv
  have hlen : o + (k + 1) ≤ l.length := by
    have : ((l.drop o).take (k + 1)).length = k + 1 := by rw [hv, hk]
    rw [List.length_take, List.length_drop] at this; omega
  refine LV.agg hr (blk_same ..) (by simpa using hlen) ?_
  rw [← hv]; simp
end Go.SL
