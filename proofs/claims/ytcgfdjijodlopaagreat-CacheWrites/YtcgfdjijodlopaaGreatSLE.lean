/- A part of proofs about the given program. No condition. -/
import Derived.Test.YtcgfdjijodlopaaGreatSLD
set_option linter.all false
namespace Go.SL
open Go.RowKit
variable {P : Program}

/-- y waits for x -/
inductive Waits (ops : Array Oper) : Nat → Nat → Prop
  | one {y : Nat} {o : Oper} {e : Edge} (hy : ops[y]? = some o) (he : e ∈ o.after) (hb : Region.binds .any e = true) : Waits ops y e.on
  | more {y x : Nat} {o : Oper} {e : Edge} (hy : ops[y]? = some o) (he : e ∈ o.after) (hb : Region.binds .any e = true) (h : Waits ops e.on x) : Waits ops y x

def mget : List (Nat × Nat) → Nat → Nat
  | [], _ => 0
  | (k, m) :: l, i => bif Nat.beq k i then m else mget l i
def mask (M : List (Nat × Nat)) (o : Oper) : Nat := o.after.toList.foldl (fun acc e => bif Region.binds .any e then acc ||| (1 <<< e.on) ||| mget M e.on else acc) 0
def masks (ops : Array Oper) : List Nat → List (Nat × Nat) → List (Nat × Nat)
  | [], M => M
  | i :: c, M => masks ops c ((i, match ops[i]? with | some o => mask M o | none => 0) :: M)
def good (ops : Array Oper) (M : List (Nat × Nat)) : Prop := ∀ i x, (mget M i).testBit x = true → Waits ops i x

theorem mask_good {ops : Array Oper} {M : List (Nat × Nat)} (hM : good ops M) {y : Nat} {o : Oper} (hy : ops[y]? = some o) {x : Nat} (h : (mask M o).testBit x = true) : Waits ops y x := by
  unfold mask at h
  suffices hs : ∀ (l : List Edge) (acc : Nat), (∀ e ∈ l, e ∈ o.after) → (acc.testBit x = true → Waits ops y x) → (l.foldl (fun acc e => bif Region.binds .any e then acc ||| (1 <<< e.on) ||| mget M e.on else acc) acc).testBit x = true → Waits ops y x from
    hs _ 0 (fun e he => by simpa using he) (by simp) h
  intro l
  induction l with
  | nil => intro acc _ ha h; exact ha h
  | cons e l ih =>
    intro acc hl ha h
    refine ih _ (fun e' he' => hl e' (List.mem_cons_of_mem _ he')) ?_ h
    intro hb
    cases hbd : Region.binds .any e with
    | false => simp [hbd] at hb; exact ha hb
    | true =>
      simp only [hbd, cond_true, Nat.testBit_or, Bool.or_eq_true] at hb
      have hin := hl e (List.mem_cons_self ..)
      rcases hb with (hb | hb) | hb
      · exact ha hb
      · rw [Nat.one_shiftLeft, Nat.testBit_two_pow] at hb
        have : e.on = x := by simpa using hb
        subst this; exact .one hy hin hbd
      · exact .more hy hin hbd (hM _ _ hb)
theorem masks_good {ops : Array Oper} : ∀ (c : List Nat) (M : List (Nat × Nat)), good ops M → good ops (masks ops c M)
  | [], _, h => h
  | i :: c, M, h => masks_good c _ fun y x hx => by
    simp only [mget] at hx
    cases hb : Nat.beq i y with
    | false => rw [hb] at hx; exact h y x hx
    | true =>
      rw [hb] at hx
      have : i = y := Nat.eq_of_beq_eq_true hb
      subst this
      cases ho : ops[i]? with
      | none => simp [ho] at hx
      | some o => simp only [ho, cond_true] at hx; exact mask_good h ho hx

/-- the numbers that o waits for, itself -/
def dmask (o : Oper) : Nat := o.after.toList.foldl (fun acc e => bif Region.binds .any e then acc ||| (1 <<< e.on) else acc) 0
def bits (l : List Nat) : Nat := l.foldl (fun acc y => acc ||| (1 <<< y)) 0
def pairsOk (ops : Array Oper) (K : Nat → Nat) (M : List (Nat × Nat)) : List Nat → Bool
  | [] => true
  | x :: l => l.all (fun y => (mget M y).testBit x || turns ops K x y) && (match ops[x]? with | some o => Nat.beq (Nat.land (bits (x :: l)) (dmask o)) 0 && Nat.blt (dmask o) (1 <<< ops.size) | none => false) && !(bits l).testBit x && pairsOk ops K M l
def kof (ks : List Nat) (i : Nat) : Nat := ks.getD i 0
def chk (ops : Array Oper) (ks c : List Nat) : Bool := Region.noSelect ops && pairsOk ops (kof ks) (masks ops c []) c && Nat.beq (bits c) (1 <<< ops.size - 1) && Nat.beq c.length ops.size

theorem foldl_or_bit {α : Type} (f : α → Nat) (x : Nat) : ∀ (l : List α) (acc : Nat), (l.foldl (fun acc e => acc ||| f e) acc).testBit x = true ↔ acc.testBit x = true ∨ ∃ e ∈ l, (f e).testBit x = true
  | [], acc => by simp
  | e :: l, acc => by
    rw [List.foldl_cons, foldl_or_bit f x l]
    simp only [Nat.testBit_or, Bool.or_eq_true, List.mem_cons, exists_eq_or_imp, or_assoc]
theorem bits_spec {l : List Nat} {x : Nat} : (bits l).testBit x = true ↔ x ∈ l := by
  unfold bits
  rw [foldl_or_bit (fun y => 1 <<< y) x l 0]
  constructor
  · rintro (h | ⟨e, he, h⟩)
    · simp at h
    · rw [Nat.one_shiftLeft, Nat.testBit_two_pow] at h
      have : e = x := by simpa using h
      exact this ▸ he
  · intro h; exact .inr ⟨x, h, by rw [Nat.one_shiftLeft, Nat.testBit_two_pow]; simp⟩
theorem dmask_spec {o : Oper} {e : Edge} (he : e ∈ o.after) (hb : Region.binds .any e = true) : (dmask o).testBit e.on = true := by
  unfold dmask
  have : (fun (acc : Nat) (e : Edge) => bif Region.binds .any e then acc ||| (1 <<< e.on) else acc) = fun acc e => acc ||| (bif Region.binds .any e then 1 <<< e.on else 0) := by
    funext acc e; cases Region.binds .any e <;> simp
  rw [this, foldl_or_bit]
  exact .inr ⟨e, by simpa using he, by rw [hb]; simp [Nat.one_shiftLeft]⟩
/-- what stands behind x is nothing that x waits for; all that it waits for is there -/
def Later (ops : Array Oper) (x y : Nat) : Prop := ∀ o, ops[x]? = some o → ∀ e ∈ o.after, Region.binds .any e = true → e.on ≠ y
theorem pairsOk_spec {ops : Array Oper} {K : Nat → Nat} {M : List (Nat × Nat)} (hM : good ops M) : ∀ {l : List Nat}, pairsOk ops K M l = true →
    l.Pairwise (fun x y => (Waits ops y x ∨ turns ops K x y = true) ∧ Later ops x y) ∧ l.Nodup ∧ (∀ x ∈ l, Later ops x x) ∧ (∀ x ∈ l, ∀ o, ops[x]? = some o → ∀ e ∈ o.after, Region.binds .any e = true → e.on < ops.size)
  | [], _ => ⟨.nil, .nil, fun _ h => (by cases h), fun _ h => (by cases h)⟩
  | x :: l, h => by
    simp only [pairsOk, Bool.and_eq_true, List.all_eq_true, Bool.or_eq_true] at h
    obtain ⟨⟨⟨h1, h2⟩, h4⟩, h3⟩ := h
    obtain ⟨i1, i4, i2, i3⟩ := pairsOk_spec hM h3
    have key : (∀ y ∈ x :: l, Later ops x y) ∧ ∀ o, ops[x]? = some o → ∀ e ∈ o.after, Region.binds .any e = true → e.on < ops.size := by
      cases ho : ops[x]? with
      | none => simp [ho] at h2
      | some o =>
        simp only [ho, Bool.and_eq_true] at h2
        have hz : Nat.land (bits (x :: l)) (dmask o) = 0 := Nat.eq_of_beq_eq_true h2.1
        have hlt : dmask o < 1 <<< ops.size := by have := h2.2; simp [Nat.blt] at this; omega
        refine ⟨fun y hy o' ho' e he hb hey => ?_, fun o' ho' e he hb => ?_⟩
        · rw [ho] at ho'; injection ho' with ho'; subst ho'
          have hd := dmask_spec he hb
          rw [hey] at hd
          have hy' := bits_spec.2 hy
          have : (Nat.land (bits (x :: l)) (dmask o)).testBit y = true := by
            show (bits (x :: l) &&& dmask o).testBit y = true
            rw [Nat.testBit_and, hd, hy']; rfl
          rw [hz] at this; simp at this
        · injection ho' with ho'; subst ho'
          have hd := dmask_spec he hb
          rcases Nat.lt_or_ge e.on ops.size with h | h
          · exact h
          · rw [Nat.one_shiftLeft] at hlt
            rw [Nat.testBit_lt_two_pow (Nat.lt_of_lt_of_le hlt (Nat.pow_le_pow_right (by omega) h))] at hd; cases hd
    refine ⟨List.pairwise_cons.2 ⟨fun y hy => ⟨(h1 y hy).imp (hM y x) id, key.1 y (List.mem_cons_of_mem _ hy)⟩, i1⟩, List.nodup_cons.2 ⟨fun hx => ?_, i4⟩, fun y hy => ?_, fun y hy => ?_⟩
    · rw [bits_spec.2 hx] at h4; cases h4
    · rcases List.mem_cons.1 hy with rfl | hy
      · exact key.1 y (List.mem_cons_self ..)
      · exact i2 y hy
    · rcases List.mem_cons.1 hy with rfl | hy
      · exact key.2
      · exact i3 y hy

section
variable {ops : Array Oper} {R W : List Frag} {K : Nat → Nat} {Q : Act → List Frag → Prop}
theorem Der.front (w0 : World) (hsel : ∀ (j : Nat) (o : Oper) cs b, ops[j]? = some o → o.op ≠ .select cs b) (hal : ∀ j o, ops[j]? = some o → K j = 4 → Lays P o) {i : Nat} : ∀ {l1 l2 : List Nat} {a : Act} {ph : Bool} {L : List Frag},
    (∀ x ∈ l1, turns ops K x i = true) → Der P ops R W K Q (l1 ++ i :: l2) a ph L → Der P ops R W K Q (i :: (l1 ++ l2)) a ph L
  | [], _, _, _, _, _, h => h
  | x :: l1, l2, _, _, _, ht, h => Der.turn w0 hsel hal (ht x (List.mem_cons_self ..)) (Der.tail (l' := i :: (l1 ++ l2)) (fun hd => Der.front w0 hsel hal (fun y hy => ht y (List.mem_cons_of_mem _ hy)) hd) h)

theorem Waits.listed {listed : Array Bool} (hcl : ∀ y o, ops[y]? = some o → listed.getD y true = true → ∀ e ∈ o.after, Region.binds .any e = true → listed.getD e.on false = true) {y x : Nat} (hw : Waits ops y x) :
    (∀ o, ops[y]? = some o → ∀ e ∈ o.after, Region.binds .any e = true → listed.getD e.on false = true) → listed.getD x false = true := by
  induction hw with
  | one hy he hb => intro h; exact h _ hy _ he hb
  | more hy he hb _ ih =>
    intro h
    have h1 := h _ hy _ he hb
    refine ih fun o ho => hcl _ o ho ?_
    rcases Nat.lt_or_ge (Edge.on _) listed.size with hl | hl
    · rw [Array.getD_eq_getD_getElem?] at h1 ⊢; rw [Array.getElem?_eq_getElem hl] at h1 ⊢; exact h1
    · rw [Array.getD_eq_getD_getElem?, Array.getElem?_eq_none hl]; rfl

/-- the walk's steps are carried out, in whatever order -/
theorem Der.run {n : Nat} {Q : Post} {md : Region.Mode} (hmd : md = .any) {w0 : World} (hsel : ∀ (j : Nat) (o : Oper) cs b, ops[j]? = some o → o.op ≠ .select cs b) (hal : ∀ j o, ops[j]? = some o → K j = 4 → Lays P o) :
    ∀ (fuel : Nat) (l : List Nat) (listed : Array Bool) (a : Act) (ph : Bool) (L : List Frag) (w : World), l.length = fuel → listed.size = ops.size →
      (∀ i, i ∈ l ↔ listed.getD i true = false) → l.Nodup → l.Pairwise (fun x y => (Waits ops y x ∨ turns ops K x y = true) ∧ Later ops x y) → (∀ x ∈ l, Later ops x x) → (∀ x ∈ l, ∀ o, ops[x]? = some o → ∀ e ∈ o.after, Region.binds .any e = true → e.on < ops.size) →
      (∀ y o, ops[y]? = some o → listed.getD y true = true → ∀ e ∈ o.after, Region.binds .any e = true → listed.getD e.on false = true) →
      Der P ops R W K (fun a' L' => ∃ ρ', Rep n a' ρ' ∧ Q .normal ρ' (R ++ L')) l a ph L → Sat w (R ++ bif ph then L else W ++ L) → Keep w0 w → wpAny P md ops (lift n w0 Q) fuel listed a w := by
  subst hmd
  have fin : ∀ {a : Act} {ph : Bool} {L : List Frag} {w : World}, Der P ops R W K (fun a' L' => ∃ ρ', Rep n a' ρ' ∧ Q .normal ρ' (R ++ L')) [] a ph L → Sat w (R ++ bif ph then L else W ++ L) → Keep w0 w → lift n w0 Q .normal a w := by
    intro a ph L w hd hs hk
    cases hd with
    | nil hp h =>
      obtain ⟨ρ', h1, h2⟩ := h
      exact ⟨ρ', _, h1, hs.perm (hp.append_left R), hk, h2⟩
  have noneReady : ∀ {l : List Nat} {listed : Array Bool}, (∀ i, i ∈ l ↔ listed.getD i true = false) → l = [] → Region.ready .any ops listed = [] := by
    intro l listed hl he
    subst he
    rw [List.eq_nil_iff_forall_not_mem]
    intro j hj
    have := (hl j).2 (mem_ready.1 hj).1
    cases this
  intro fuel
  induction fuel with
  | zero =>
    intro l listed a ph L w hlen _ hl _ _ _ _ _ hd hs hk
    have : l = [] := List.eq_nil_of_length_eq_zero hlen
    subst this
    exact ⟨noneReady hl rfl, fin hd hs hk⟩
  | succ fuel ih =>
    intro l listed a ph L w hlen hsz hl hnd hpw hself hrng hcl hd hs hk
    refine ⟨fun hr => ?_, fun i hi => ?_⟩
    · -- the first of what is left waits for nothing that is left
      exfalso
      cases l with
      | nil => simp at hlen
      | cons x l =>
        have hx := (hl x).1 (List.mem_cons_self ..)
        have hxs : x < ops.size := by
          rcases Nat.lt_or_ge x listed.size with h | h
          · omega
          · rw [Array.getD_eq_getD_getElem?, Array.getElem?_eq_none h] at hx; cases hx
        have : x ∈ Region.ready .any ops listed := mem_ready.2 ⟨hx, ops[x], Array.getElem?_eq_getElem hxs, fun e he hb => by
          have hlt := hrng x (List.mem_cons_self ..) _ (Array.getElem?_eq_getElem hxs) e he hb
          cases hq : listed.getD e.on false with
          | true => rfl
          | false =>
            have hq' : listed.getD e.on true = false := by
              rw [Array.getD_eq_getD_getElem?, Array.getElem?_eq_getElem (by omega)] at hq ⊢; exact hq
            have hm := (hl e.on).2 hq'
            rcases List.mem_cons.1 hm with h | h
            · exact absurd h (hself x (List.mem_cons_self ..) _ (Array.getElem?_eq_getElem hxs) e he hb)
            · exact absurd rfl (((List.pairwise_cons.1 hpw).1 e.on h).2 _ (Array.getElem?_eq_getElem hxs) e he hb)⟩
        rw [hr] at this; cases this
    · obtain ⟨hun, oi, hoi, hall⟩ := mem_ready.1 hi
      obtain ⟨l1, l2, rfl⟩ := List.append_of_mem ((hl i).2 hun)
      have hturn : ∀ x ∈ l1, turns ops K x i = true := fun x hx => by
        rcases ((List.pairwise_append.1 hpw).2.2 x hx i (List.mem_cons_self ..)).1 with h | h
        · exfalso
          have h1 := h.listed hcl (fun o ho => by rw [hoi] at ho; injection ho with ho; subst ho; exact hall)
          have h2 := (hl x).1 (List.mem_append_left _ hx)
          rcases Nat.lt_or_ge x listed.size with hlt | hge
          · rw [Array.getD_eq_getD_getElem?, Array.getElem?_eq_getElem hlt] at h1 h2; simp at h1 h2; rw [h1] at h2; cases h2
          · rw [Array.getD_eq_getD_getElem?, Array.getElem?_eq_none hge] at h1; cases h1
        · exact h
      have hd' := Der.front w hsel hal hturn hd
      have hlt : i < ops.size := (Array.getElem?_eq_some_iff.1 hoi).1
      have hgd : ∀ j b, (listed.setIfInBounds i true).getD j b = if j = i then true else listed.getD j b := fun j b => by
        rw [Array.getD_eq_getD_getElem?, Array.getElem?_setIfInBounds, Array.getD_eq_getD_getElem?]
        by_cases hji : j = i
        · subst hji; simp [hsz, hlt]
        · simp [hji, Ne.symm hji]
      have hsubl : (l1 ++ l2).Sublist (l1 ++ i :: l2) := List.Sublist.append_left (List.sublist_cons_self ..) _
      have rest : ∀ (a' : Act) (w' : World) (ph' : Bool) (L' : List Frag), Der P ops R W K (fun a' L' => ∃ ρ', Rep n a' ρ' ∧ Q .normal ρ' (R ++ L')) (l1 ++ l2) a' ph' L' → Sat w' (R ++ bif ph' then L' else W ++ L') → Keep w0 w' →
          wpAny P .any ops (lift n w0 Q) fuel (listed.setIfInBounds i true) a' w' := fun a' w' ph' L' hd hs hk => by
        refine ih (l1 ++ l2) _ a' ph' L' w' (by simp at hlen ⊢; omega) (by simp [hsz]) (fun j => ?_) ?_ ?_ (fun x hx => hself x (hsubl.subset hx)) (fun x hx => hrng x (hsubl.subset hx)) ?_ hd hs hk
        · rw [hgd]
          have hni : i ∉ l1 ++ l2 := by
            have := List.nodup_append.1 hnd
            intro hm
            rcases List.mem_append.1 hm with hm | hm
            · exact this.2.2 i hm i (List.mem_cons_self ..) rfl
            · exact (List.nodup_cons.1 this.2.1).1 hm
          by_cases hji : j = i
          · subst hji; simp [hni]
          · rw [if_neg hji, ← hl j]; simp [hji]
        · exact hnd.sublist hsubl
        · exact hpw.sublist hsubl
        · intro y o ho hy e he hb
          rw [hgd] at hy ⊢
          by_cases hei : e.on = i
          · rw [if_pos hei]
          · rw [if_neg hei]
            by_cases hyi : y = i
            · subst hyi; rw [hoi] at ho; injection ho with ho; subst ho; exact hall e he hb
            · rw [if_neg hyi] at hy; exact hcl y o ho hy e he hb
      unfold wpOp
      simp only [hoi]
      cases hd' with
      | ld hi' hK hw h k =>
        rw [hoi] at hi'; injection hi' with hi'; subst hi'
        rw [if_pos hw]; left; unfold Oper.wp; rw [h w hs.left]; exact rest _ _ _ _ k hs hk
      | rd hi' hK hw h k =>
        rw [hoi] at hi'; injection hi' with hi'; subst hi'
        have hs' : Sat w ((R ++ W) ++ L) := by rw [List.append_assoc]; exact hs
        rw [if_pos hw]; left; unfold Oper.wp; rw [h w hs'.left]; exact rest _ _ _ _ k hs hk
      | no hi' hw k =>
        rw [hoi] at hi'; injection hi' with hi'; subst hi'
        rw [if_neg (by rw [hw]; simp)]; exact rest _ _ _ _ k hs hk
      | nb hi' hK hw h k =>
        rw [hoi] at hi'; injection hi' with hi'; subst hi'
        rw [if_pos hw]; left; unfold Oper.wp; rw [h w]
        refine rest _ _ ph _ (k w.heap.size) ((hs.allocCells _ _).perm ?_) (hk.trans (Keep.alloc w _))
        cases ph
        · show (_ :: (R ++ (W ++ L))).Perm (R ++ (W ++ _ :: L))
          rw [← List.append_assoc, ← List.append_assoc]
          exact (List.perm_middle).symm
        · exact (List.perm_middle).symm
      | ef hi' hK hw h k =>
        rw [hoi] at hi'; injection hi' with hi'; subst hi'
        obtain ⟨v, L', w', g1, g2, g3, g4⟩ := h w [] (by simpa using hs)
        have := rest _ w' true L' (k v L' g2) (by simpa using g3) (hk.trans g4)
        rw [if_pos hw]; left; unfold Oper.wp
        rcases g1 with g1 | ⟨g1, rfl⟩ <;> rw [g1] <;> exact this
      | cl hi' hK hw h hc k =>
        rw [hoi] at hi'; injection hi' with hi'; subst hi'
        rw [if_pos hw]; left; unfold Oper.wp; rw [h w]
        refine (hc w [] (by simpa using hs)).mono fun e w' ⟨v, L', he, g2, g3, g4⟩ => ?_
        subst he
        exact rest _ w' true L' (k v L' g2) (by simpa using g3) (hk.trans g4)
/-- the walk of a drawn region, at what is known of the registers -/
def TD (P : Program) (n : Nat) (ops : Array Oper) (R W : List Frag) (K : Nat → Nat) (Q : Post) (l : List Nat) (ρ : Regs) (ph : Bool) (L : List Frag) : Prop :=
  ∀ a, Rep n a ρ → Der P ops R W K (fun a' L' => ∃ ρ', Rep n a' ρ' ∧ Q .normal ρ' (R ++ L')) l a ph L

theorem all_of_bits {c : List Nat} {n : Nat} (h1 : bits c = 1 <<< n - 1) : ∀ i, i ∈ c ↔ i < n := fun i => by
  rw [← bits_spec, h1, Nat.one_shiftLeft, Nat.testBit_two_pow_sub_one]; simp

theorem TC.draw {n : Nat} {Q : Post} {id : Nat} {ρ : Regs} {L : List Frag} (ks c : List Nat) (hm : P.follows .mixedOrders = true) (hchk : chk ops ks c = true) (hal : ∀ j o, ops[j]? = some o → kof ks j = 4 → Lays P o) (hL : L.Perm (R ++ W))
    (h : TD P n ops R W (kof ks) Q c ρ false []) : TC P n Q (.region id ops true) ρ L := fun a w hr hs => by
  simp only [chk, Bool.and_eq_true] at hchk
  obtain ⟨⟨⟨h1, h2⟩, h3⟩, h4⟩ := hchk
  have hn := all_of_bits (Nat.eq_of_beq_eq_true h3)
  obtain ⟨p1, p4, p2, p3⟩ := pairsOk_spec (masks_good c [] (fun i x hx => by simp [mget] at hx)) h2
  refine wp_region_any hm (Der.run rfl (Region.noSelect_spec h1) hal ops.size c _ a false [] _ (Nat.eq_of_beq_eq_true h4) (by simp) (fun i => ?_) p4 p1 p2 p3 ?_ (h a hr) ?_ (Keep.drawn w _))
  · rw [hn, Array.getD_eq_getD_getElem?]
    by_cases hi : i < ops.size
    · simp [hi]
    · simp [hi]
  · intro y o ho hy
    have hlt := (Array.getElem?_eq_some_iff.1 ho).1
    rw [Array.getD_eq_getD_getElem?] at hy
    simp [hlt] at hy
  · have := (hs.perm hL).drawn (w.drawn + 1)
    simpa using this
end
end Go.SL
