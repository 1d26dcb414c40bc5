/- A part of proofs about the given program. No condition. -/
import Derived.Test.YtcgfdjijodlopaaGreatSL6
set_option linter.all false
/- Rules as a printed walk uses them. -/
namespace Go.SL
open Go.RowKit
variable {P : Program} {n : Nat}

/-- a function that changes nothing -/
def FnP (P : Program) (f : Nat) (args : List Value) (φ : Value → Prop) : Prop := Fn P f args [] (fun v L' => φ v ∧ L' = [])
/-- a function that reads one part, and changes nothing -/
def FnR (P : Program) (f : Nat) (args : List Value) (r : Frag) (φ : Value → Prop) : Prop := Fn P f args [r] (fun v L' => φ v ∧ L' = [r])
/-- a function that changes one part -/
def FnW (P : Program) (f : Nat) (args : List Value) (r : Frag) (φ : Value → Frag → Prop) : Prop := Fn P f args [r] (fun v L' => ∃ r', φ v r' ∧ L' = [r'])
/-- a function that lays one part -/
def FnN (P : Program) (f : Nat) (args : List Value) (φ : Value → Frag → Prop) : Prop := Fn P f args [] (fun v L' => ∃ r', φ v r' ∧ L' = [r'])

section
variable {ops : Array Oper} {Q : Post} {l : List Oper} {o : Oper} {ρ : Regs} {L : List Frag}
theorem TL.nilS {y : Code} {Q : Post} (k : TC P n Q y ρ L) : TL P n ops (Post.seq (TC P n Q y) Q) [] ρ L := TL.nil k
theorem TC.skipS {y : Code} {Q : Post} (k : TC P n Q y ρ L) : TC P n (Post.seq (TC P n Q y) Q) .skip ρ L := TC.skip k
theorem TL.cp {f : Nat} {args : List Value} {φ : Value → Prop} (hc : CL P ρ o f args) (hf : FnP P f args φ) (hw : Wants n ops ρ o true) (hd : dok n o.dst = true) (k : ∀ v, φ v → TL P n ops Q l (dpush o.dst v ρ) L) : TL P n ops Q (o :: l) ρ L :=
  TL.cl hc hf (F := L) (.refl _) hw hd fun v L' ⟨h1, h2⟩ => by subst h2; exact k v h1
theorem TL.cr {f : Nat} {args : List Value} {r : Frag} {φ : Value → Prop} (hc : CL P ρ o f args) (hf : FnR P f args r φ) (hr : r ∈ L) (hw : Wants n ops ρ o true) (hd : dok n o.dst = true) (k : ∀ v, φ v → TL P n ops Q l (dpush o.dst v ρ) L) : TL P n ops Q (o :: l) ρ L := by
  obtain ⟨i, hi, rfl⟩ := List.mem_iff_getElem.1 hr
  have hp := perm_get (List.getElem?_eq_getElem hi)
  exact TL.cl hc hf (F := L.eraseIdx i) hp hw hd fun v L' ⟨h1, h2⟩ => by subst h2; exact TL.perm hp.symm (k v h1)
theorem TL.cw {f : Nat} {args : List Value} {r : Frag} {i : Nat} {φ : Value → Frag → Prop} (hc : CL P ρ o f args) (hf : FnW P f args r φ) (hi : L[i]? = some r) (hw : Wants n ops ρ o true) (hd : dok n o.dst = true) (k : ∀ v r', φ v r' → TL P n ops Q l (dpush o.dst v ρ) (L.set i r')) : TL P n ops Q (o :: l) ρ L :=
  TL.cl hc hf (F := L.eraseIdx i) (perm_get hi) hw hd fun v L' ⟨r', h1, h2⟩ => by subst h2; exact TL.perm (perm_set r' (List.getElem?_eq_some_iff.1 hi).1).symm (k v r' h1)
theorem TL.cn {f : Nat} {args : List Value} {φ : Value → Frag → Prop} (hc : CL P ρ o f args) (hf : FnN P f args φ) (hw : Wants n ops ρ o true) (hd : dok n o.dst = true) (k : ∀ v r', φ v r' → TL P n ops Q l (dpush o.dst v ρ) (r' :: L)) : TL P n ops Q (o :: l) ρ L :=
  TL.cl hc hf (F := L) (.refl _) hw hd fun v L' ⟨r', h1, h2⟩ => by subst h2; exact k v r' h1
end
section
variable {ops : Array Oper} {R : List Frag} {K : Nat → Nat} {Q : Post} {i : Nat} {l : List Nat} {o : Oper} {ρ : Regs} {ph : Bool}
/-- all that is there is read alone -/
theorem TC.drawR {id : Nat} {L : List Frag} (ks c : List Nat) (hm : P.follows .mixedOrders = true) (hchk : chk ops ks c = true) (hal : ∀ j o, ops[j]? = some o → kof ks j = 4 → Lays P o)
    (h : TD P n ops L [] (kof ks) Q c ρ false []) : TC P n Q (.region id ops true) ρ L := TC.draw ks c hm hchk hal (by simp) h
theorem TC.draw0 {id : Nat} {L : List Frag} (ks c : List Nat) (hm : P.follows .mixedOrders = true) (hchk : chk ops ks c = true) (h4 : Nat.beq (ks.foldl max 0) 3 = true ∨ Nat.blt (ks.foldl max 0) 3 = true)
    (h : TD P n ops L [] (kof ks) Q c ρ false []) : TC P n Q (.region id ops true) ρ L := TC.drawR ks c hm hchk (fun j o _ hk => by
  exfalso
  have hmax : ∀ (l : List Nat) (a : Nat), a ≤ l.foldl max a ∧ ∀ x ∈ l, x ≤ l.foldl max a := by
    intro l
    induction l with
    | nil => intro a; exact ⟨Nat.le_refl _, fun _ h => (by cases h)⟩
    | cons y l ih =>
      intro a
      have := ih (max a y)
      refine ⟨by simp only [List.foldl_cons]; omega, fun x hx => ?_⟩
      simp only [List.foldl_cons]
      rcases List.mem_cons.1 hx with rfl | hx
      · omega
      · exact this.2 x hx
  have hj : kof ks j ∈ ks := by
    unfold kof at hk ⊢
    rw [List.getD_eq_getElem?_getD] at hk ⊢
    cases hg : ks[j]? with
    | none => simp [hg] at hk
    | some x => simp; exact List.mem_of_getElem? hg
  have := (hmax ks 0).2 _ hj
  rcases h4 with h4 | h4
  · have := Nat.eq_of_beq_eq_true h4; omega
  · simp [Nat.blt] at h4; omega) h
theorem TD.nilS {y : Code} {Q : Post} {L : List Frag} (k : TC P n Q y ρ (R ++ L)) : TD P n ops R [] K (Post.seq (TC P n Q y) Q) [] ρ ph L := TD.nil (by cases ph <;> exact k)
theorem TD.cp {f : Nat} {args : List Value} {φ : Value → Prop} {L : List Frag} (hi : ops[i]? = some o) (hK : K i = 2) (hc : CL P ρ o f args) (hf : FnP P f args φ) (hw : Wants n ops ρ o true) (hd : dok n o.dst = true)
    (k : ∀ v, φ v → TD P n ops R [] K Q l (dpush o.dst v ρ) true L) : TD P n ops R [] K Q (i :: l) ρ ph L :=
  TD.cl hi hK hc hf (F := R ++ L) (by cases ph <;> exact .refl _) hw hd fun v L' ⟨h1, h2⟩ => by subst h2; exact ⟨L, .refl _, k v h1⟩
theorem TD.cr {f : Nat} {args : List Value} {r : Frag} {φ : Value → Prop} {L : List Frag} (hi : ops[i]? = some o) (hK : K i = 2) (hc : CL P ρ o f args) (hf : FnR P f args r φ) (hr : r ∈ R ++ L) (hw : Wants n ops ρ o true) (hd : dok n o.dst = true)
    (k : ∀ v, φ v → TD P n ops R [] K Q l (dpush o.dst v ρ) true L) : TD P n ops R [] K Q (i :: l) ρ ph L := by
  obtain ⟨j, hj, e⟩ := List.mem_iff_getElem.1 hr
  have hp := perm_get (List.getElem?_eq_getElem hj)
  rw [e] at hp
  exact TD.cl hi hK hc hf (F := (R ++ L).eraseIdx j) (by cases ph <;> exact hp) hw hd fun v L' ⟨h1, h2⟩ => by subst h2; exact ⟨L, hp.symm, k v h1⟩
theorem TD.cn {f : Nat} {args : List Value} {φ : Value → Frag → Prop} {L : List Frag} (hi : ops[i]? = some o) (hK : K i = 2) (hc : CL P ρ o f args) (hf : FnN P f args φ) (hw : Wants n ops ρ o true) (hd : dok n o.dst = true)
    (k : ∀ v r', φ v r' → TD P n ops R [] K Q l (dpush o.dst v ρ) true (r' :: L)) : TD P n ops R [] K Q (i :: l) ρ ph L :=
  TD.cl hi hK hc hf (F := R ++ L) (by cases ph <;> exact .refl _) hw hd fun v L' ⟨r', h1, h2⟩ => by subst h2; exact ⟨r' :: L, (List.perm_middle (a := r') (l₁ := R) (l₂ := L)).symm, k v r' h1⟩
end
/-- the end, with what is handed back -/
theorem Out.intro {rs : List ResultVar} {post : Value → List Frag → Prop} {F : List Frag} {ρ : Regs} {L : List Frag} {vs : List Value} {X L' : List Frag} (h1 : Res P ρ L rs vs) (h2 : post (pack vs) L') (h3 : L.Perm (X ++ (L' ++ F))) : Out P rs post F .ret ρ L := ⟨vs, X, L', L', h1, h2, h3, .refl _⟩
theorem Out.introE {rs : List ResultVar} {post : Value → List Frag → Prop} {F : List Frag} {ρ : Regs} {L : List Frag} {vs : List Value} {X L0 L' : List Frag} (h1 : Res P ρ L rs vs) (h2 : post (pack vs) L') (h3 : L.Perm (X ++ (L0 ++ F))) (h4 : Ent L0 L') : Out P rs post F .ret ρ L := ⟨vs, X, L0, L', h1, h2, h3, h4⟩
theorem Res.t {ρ : Regs} {L : List Frag} {t : Nat} {l : List ResultVar} {v : Value} {us : List Value} (h : rget ρ t = some v) (k : Res P ρ L l us) : Res P ρ L (.tmp t :: l) (v :: us) := ⟨v, us, rfl, h, k⟩
theorem Res.c {ρ : Regs} {L : List Frag} {t ty : Nat} {l : List ResultVar} {v : Value} {us : List Value} {A : Addr} (h : rget ρ t = some (.pointer (some A))) (hl : LV P L ty A v) (k : Res P ρ L l us) : Res P ρ L (.cell t ty :: l) (v :: us) := ⟨v, us, A, rfl, h, hl, k⟩
theorem Res.z {ρ : Regs} {L : List Frag} : Res P ρ L [] [] := rfl

/-! ### short names, for printed walks -/
section
variable {L : List Frag} {r : Frag}
theorem m0 {L : List Frag} : r ∈ r :: L := .head _
theorem m1 {x1 : Frag} : r ∈ x1 :: r :: L := .tail _ m0
theorem m2 {x1 x2 : Frag} : r ∈ x1 :: x2 :: r :: L := .tail _ m1
theorem m3 {x1 x2 x3 : Frag} : r ∈ x1 :: x2 :: x3 :: r :: L := .tail _ m2
theorem m4 {x1 x2 x3 x4 : Frag} : r ∈ x1 :: x2 :: x3 :: x4 :: r :: L := .tail _ m3
theorem m5 {x1 x2 x3 x4 x5 : Frag} : r ∈ x1 :: x2 :: x3 :: x4 :: x5 :: r :: L := .tail _ m4
theorem m6 {x1 x2 x3 x4 x5 x6 : Frag} : r ∈ x1 :: x2 :: x3 :: x4 :: x5 :: x6 :: r :: L := .tail _ m5
theorem m7 {x1 x2 x3 x4 x5 x6 x7 : Frag} : r ∈ x1 :: x2 :: x3 :: x4 :: x5 :: x6 :: x7 :: r :: L := .tail _ m6
theorem m8 {x1 x2 x3 x4 x5 x6 x7 x8 : Frag} : r ∈ x1 :: x2 :: x3 :: x4 :: x5 :: x6 :: x7 :: x8 :: r :: L := .tail _ m7
theorem m9 {x1 x2 x3 x4 x5 x6 x7 x8 x9 : Frag} : r ∈ x1 :: x2 :: x3 :: x4 :: x5 :: x6 :: x7 :: x8 :: x9 :: r :: L := .tail _ m8
end
section
variable {ops : Array Oper} {Q : Post} {l : List Oper} {o : Oper} {ρ : Regs} {L : List Frag}
theorem TL.q {v : Value} (h : LD P ρ L o v) (hg : o.guard = none) (hd : dok n o.dst = true) (k : TL P n ops Q l (dpush o.dst v ρ) L) : TL P n ops Q (o :: l) ρ L := .ld h (.un hg) hd k
theorem TL.e {v : Value} {L' : List Frag} (h : EF P ρ L o v L') (hg : o.guard = none) (hd : dok n o.dst = true) (k : TL P n ops Q l (dpush o.dst v ρ) L') : TL P n ops Q (o :: l) ρ L := .ef h (.un hg) hd k
theorem TL.y {v : Value} {j t : Nat} {want b : Bool} (h : LD P ρ L o v) (hb : b = want) (hg : o.guard = some (j, want)) (hj : (ops[j]?).bind (·.dst) = some t) (hv : rget ρ t = some (.bool b)) (hd : dok n o.dst = true) (k : TL P n ops Q l (dpush o.dst v ρ) L) : TL P n ops Q (o :: l) ρ L := .ld h (.yes hg hj hv hb) hd k
theorem TL.s {j t : Nat} {want b : Bool} (hb : b = !want) (hg : o.guard = some (j, want)) (hj : (ops[j]?).bind (·.dst) = some t) (hv : rget ρ t = some (.bool b)) (hd : dok n o.dst = true) (k : TL P n ops Q l (dpush o.dst undef ρ) L) : TL P n ops Q (o :: l) ρ L := .skip (.no hg hj hv hb) hd k
end
section
variable {ops : Array Oper} {R W : List Frag} {K : Nat → Nat} {Q : Post} {i : Nat} {l : List Nat} {o : Oper} {ρ : Regs} {ph : Bool} {L : List Frag}
theorem TD.q {v : Value} (hi : ops[i]? = some o) (hK : Nat.ble (K i) 2 = true) (h : LD P ρ R o v) (hg : o.guard = none) (hd : dok n o.dst = true) (k : TD P n ops R W K Q l (dpush o.dst v ρ) ph L) : TD P n ops R W K Q (i :: l) ρ ph L := .ld hi hK h (.un hg) hd k
theorem TD.y {v : Value} {j t : Nat} {want b : Bool} (hi : ops[i]? = some o) (hK : Nat.ble (K i) 2 = true) (h : LD P ρ R o v) (hb : b = want) (hg : o.guard = some (j, want)) (hj : (ops[j]?).bind (·.dst) = some t) (hv : rget ρ t = some (.bool b)) (hd : dok n o.dst = true) (k : TD P n ops R W K Q l (dpush o.dst v ρ) ph L) : TD P n ops R W K Q (i :: l) ρ ph L := .ld hi hK h (.yes hg hj hv hb) hd k
theorem TD.s {j t : Nat} {want b : Bool} (hi : ops[i]? = some o) (hb : b = !want) (hg : o.guard = some (j, want)) (hj : (ops[j]?).bind (·.dst) = some t) (hv : rget ρ t = some (.bool b)) (hd : dok n o.dst = true) (k : TD P n ops R W K Q l (dpush o.dst undef ρ) ph L) : TD P n ops R W K Q (i :: l) ρ ph L := .no hi (.no hg hj hv hb) hd k
end

/-! ### bits -/
section
variable {ρ : Regs} {L : List Frag} {d : Option Tmp} {t : TypeId} {p : String} {af : Array Edge} {g : Option (Nat × Bool)}
theorem LD.shr {x y : Operand} {tx ty : TypeId} {k : IntKind} {a b : Int} (hx : rev ρ x = some (.int .i64 a)) (hy : rev ρ y = some (.int k b)) (hb : 0 ≤ b ∧ b ≤ 63) : LD P ρ L ⟨d, .binOp .shr tx x y ty, t, p, af, g⟩ (.int .i64 (a / 2 ^ b.toNat)) :=
  LD.bin hx hy (fun _ _ _ => eqGuard_int ..) fun w => by
    have h1 : ¬ b < 0 := by omega
    have h2 : min b.toNat 64 = b.toNat := by omega
    have h3 : (0 : Int) ≤ 2 ^ b.toNat := Int.le_of_lt (Int.pow_pos (by omega))
    have e : binOp .shr tx (.int .i64 a) (.int k b) = Op.shift .shr .i64 a k b := by simp [binOp]
    rw [e]
    simp only [Op.shift, if_neg h1, IntKind.bits, h2, Int.fdiv_eq_ediv_of_nonneg a h3]
    rfl
theorem LD.and {x y : Operand} {tx ty : TypeId} {a b : Int} (hx : rev ρ x = some (.int .i64 a)) (hy : rev ρ y = some (.int .i64 b)) (ha : 0 ≤ a ∧ a ≤ 9223372036854775807) (hb : 0 ≤ b ∧ b ≤ 9223372036854775807) :
    LD P ρ L ⟨d, .binOp .and tx x y ty, t, p, af, g⟩ (.int .i64 ((a.toNat &&& b.toNat : Nat) : Int)) :=
  LD.bin hx hy (fun _ _ _ => eqGuard_int ..) fun w => by
    obtain ⟨m, rfl⟩ := Int.eq_ofNat_of_zero_le ha.1
    obtain ⟨k, rfl⟩ := Int.eq_ofNat_of_zero_le hb.1
    have hm : m % 18446744073709551616 = m := Nat.mod_eq_of_lt (by omega)
    have hk : k % 18446744073709551616 = k := Nat.mod_eq_of_lt (by omega)
    have e : (BitVec.ofInt 64 (m : Int) &&& BitVec.ofInt 64 (k : Int)).toNat = m &&& k := by
      rw [BitVec.toNat_and]; simp [hm, hk]
    have hle : m &&& k ≤ m := Nat.and_le_left
    have hw : IntKind.wrap .i64 ((m &&& k : Nat) : Int) = ((m &&& k : Nat) : Int) := wrap_in (by omega)
    have e2 : binOp .and tx (.int .i64 (m : Int)) (.int .i64 (k : Int)) = Op.intBits .and .i64 m k := by simp [binOp]
    rw [e2]
    have e3 : Op.intBits .and .i64 m k = pure (.int .i64 (IntKind.wrap .i64 ((BitVec.ofInt 64 (m : Int) &&& BitVec.ofInt 64 (k : Int)).toNat : Int))) := rfl
    rw [e3, e, hw]; rfl
end
theorem and_half (a b : Nat) : (a &&& b) / 2 = (a / 2) &&& (b / 2) := Nat.eq_of_testBit_eq fun i => by simp [Nat.testBit_div_two, Nat.testBit_and]
theorem pow_and : ∀ x : Nat, 1 ≤ x → ((x &&& (x - 1) = 0) ↔ ∃ k, x = 2 ^ k) := by
  intro x
  induction x using Nat.strongRecOn with
  | _ x ih =>
    intro h
    rcases Nat.lt_or_ge x 2 with h2 | h2
    · have : x = 1 := by omega
      subst this; simp; exact ⟨0, rfl⟩
    · have hh := and_half x (x - 1)
      have hb : (x &&& (x - 1)) % 2 = 0 := by
        have : (x &&& (x - 1)).testBit 0 = false := by
          rw [Nat.testBit_and, Nat.testBit_zero, Nat.testBit_zero]
          rcases Nat.mod_two_eq_zero_or_one x with e | e
          · simp [e]
          · have : (x - 1) % 2 = 0 := by omega
            simp [this]
        rw [Nat.testBit_zero] at this
        have := of_decide_eq_false this
        omega
      rcases Nat.mod_two_eq_zero_or_one x with e | e
      · have e1 : (x - 1) / 2 = x / 2 - 1 := by omega
        rw [e1] at hh
        have := ih (x / 2) (by omega) (by omega)
        constructor
        · intro h0
          rw [h0] at hh
          obtain ⟨k, hk⟩ := this.1 (by omega)
          exact ⟨k + 1, by rw [Nat.pow_succ]; omega⟩
        · rintro ⟨k, hk⟩
          cases k with
          | zero => simp at hk; omega
          | succ k =>
            have := this.2 ⟨k, by rw [Nat.pow_succ] at hk; omega⟩
            omega
      · have e1 : (x - 1) / 2 = x / 2 := by omega
        rw [e1, Nat.and_self] at hh
        constructor
        · intro h0; rw [h0] at hh; omega
        · rintro ⟨k, hk⟩
          cases k with
          | zero => simp at hk; omega
          | succ k => rw [Nat.pow_succ] at hk; omega

/-- registers that hold so -/
def subr : Regs → Regs → Prop
  | [], _ => True
  | (i, v) :: l, ρ => rget ρ i = some v ∧ subr l ρ
theorem subr_get : ∀ {ρ' ρ : Regs}, subr ρ' ρ → ∀ i v, rget ρ' i = some v → rget ρ i = some v
  | [], _, _, _, _, h => by cases h
  | (k, u) :: l, ρ, ⟨h1, h2⟩, i, v, h => by
    rw [rget_cons] at h
    split at h
    · rename_i e; subst e; injection h with h; subst h; exact h1
    · exact subr_get h2 i v h
section
variable {Q : Post} {ρ : Regs} {L : List Frag}
theorem TC.loops {α : Type} {c : Code} (ρI : α → Regs) (LI : α → List Frag) (I : α → Prop) (μ : α → Nat) (x0 : α) (hI : I x0) (hρ : subr (ρI x0) ρ) (hL : L.Perm (LI x0))
    (round : ∀ x, I x → TC P n (Post.seq (fun ρ' L' => ∃ y, I y ∧ μ y < μ x ∧ subr (ρI y) ρ' ∧ L'.Perm (LI y)) Q) c (ρI x) (LI x)) : TC P n Q (.loop c) ρ L :=
  TC.loop ρI LI I μ x0 hI (subr_get hρ) hL fun x hx => TC.mono (fun e ρ' L' h => by
    cases e with
    | normal => obtain ⟨y, h1, h2, h3, h4⟩ := h; exact ⟨y, h1, h2, subr_get h3, h4⟩
    | _ => exact h) (round x hx)
/-- less is kept in mind -/
theorem TC.keep {c : Code} (ρ' : Regs) (L' : List Frag) (hρ : subr ρ' ρ) (hL : L.Perm L') (k : TC P n Q c ρ' L') : TC P n Q c ρ L := TC.weak (subr_get hρ) (TC.perm hL k)
end
theorem Post.sr {K : Regs → List Frag → Prop} {Q : Post} {ρ : Regs} {L : List Frag} (h : Q .ret ρ L) : Post.seq K Q .ret ρ L := h
theorem Post.br {id : Nat} {Q : Post} {ρ : Regs} {L : List Frag} (h : Q .ret ρ L) : Post.block id Q .ret ρ L := h
end Go.SL
