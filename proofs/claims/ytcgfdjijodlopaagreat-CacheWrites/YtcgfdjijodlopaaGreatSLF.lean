/- A part of proofs about the given program. No condition. -/
import Derived.Test.YtcgfdjijodlopaaGreatSLE
set_option linter.all false
/- The rules of a drawn region's walk, at the registers as far as they are known. -/
namespace Go.SL
open Go.RowKit
variable {P : Program} {n : Nat}
section
variable {ops : Array Oper} {R W : List Frag} {K : Nat → Nat} {Q : Post} {i : Nat} {l : List Nat} {o : Oper} {ρ : Regs} {ph : Bool} {L : List Frag}

theorem TD.nil (h : Q .normal ρ (R ++ (bif ph then L else W ++ L))) : TD P n ops R W K Q [] ρ ph L := fun _ hr => .nil (.refl _) ⟨ρ, hr, h⟩
theorem TD.ld {v : Value} (hi : ops[i]? = some o) (hK : Nat.ble (K i) 2 = true) (h : LD P ρ R o v) (hw : Wants n ops ρ o true) (hd : dok n o.dst = true) (k : TD P n ops R W K Q l (dpush o.dst v ρ) ph L) : TD P n ops R W K Q (i :: l) ρ ph L := fun a hr =>
  .ld hi (Nat.le_of_ble_eq_true hK) (hw a hr) (fun w hs => h n a w hr hs) (k _ (hr.put hd v))
theorem TD.rd {v : Value} (hi : ops[i]? = some o) (hK : K i = 1) (h : LD P ρ (R ++ W) o v) (hw : Wants n ops ρ o true) (hd : dok n o.dst = true) (k : TD P n ops R W K Q l (dpush o.dst v ρ) false L) : TD P n ops R W K Q (i :: l) ρ false L := fun a hr =>
  .rd hi hK (hw a hr) (fun w hs => h n a w hr hs) (k _ (hr.put hd v))
theorem TD.no (hi : ops[i]? = some o) (hw : Wants n ops ρ o false) (hd : dok n o.dst = true) (k : TD P n ops R W K Q l (dpush o.dst undef ρ) ph L) : TD P n ops R W K Q (i :: l) ρ ph L := fun a hr =>
  .no hi (hw a hr) (k _ (hr.put hd undef))
theorem TD.nb {T : TypeId} {z : Array Value} {v : Nat → Value} (hi : ops[i]? = some o) (hK : (Nat.beq (K i) 3 || Nat.beq (K i) 4) = true) (h : NB P ρ [] o T z v) (hw : Wants n ops ρ o true) (hd : dok n o.dst = true)
    (k : ∀ b, TD P n ops R W K Q l (dpush o.dst (v b) ρ) ph (blk b T z :: L)) : TD P n ops R W K Q (i :: l) ρ ph L := fun a hr =>
  .nb hi (by
    rcases Bool.or_eq_true_iff.1 hK with h | h
    · exact .inl (Nat.eq_of_beq_eq_true h)
    · exact .inr (Nat.eq_of_beq_eq_true h)) (hw a hr) (fun w => h n a w hr (Sat.nil w)) (fun b => k b _ (hr.put hd _))
/-- what changes: a part A of the memory -/
theorem TD.ef {v : Value} {A A' F : List Frag} (hi : ops[i]? = some o) (hK : K i = 2) (hL : (bif ph then L else W ++ L).Perm (A ++ F)) (hw : Wants n ops ρ o true) (hd : dok n o.dst = true)
    (hA : ∀ {G : List Frag}, EF P ρ (A ++ G) o v (A' ++ G)) (k : TD P n ops R W K Q l (dpush o.dst v ρ) true (A' ++ F)) : TD P n ops R W K Q (i :: l) ρ ph L := fun a hr =>
  .ef (E := fun u L' => u = v ∧ L' = A' ++ F) hi hK (hw a hr) (fun w G hs => by
    have hp : (R ++ (bif ph then L else W ++ L) ++ G).Perm (A ++ (R ++ F ++ G)) := by
      refine ((hL.append_left R).append_right G).trans ?_
      simp only [List.append_assoc]
      exact List.perm_append_comm_assoc ..
    obtain ⟨w', h1, h2, h3⟩ := hA n a w hr (hs.perm hp)
    refine ⟨v, _, w', h1, ⟨rfl, rfl⟩, h2.perm ?_, h3⟩
    simp only [List.append_assoc]
    exact List.perm_append_comm_assoc ..) (fun u L' ⟨h1, h2⟩ => by subst h2; subst h1; exact k _ (hr.put hd _))
theorem TD.cl {f : Nat} {args : List Value} {pre F : List Frag} {post : Value → List Frag → Prop} (hi : ops[i]? = some o) (hK : K i = 2) (hc : CL P ρ o f args) (hf : Fn P f args pre post)
    (hL : (R ++ (bif ph then L else W ++ L)).Perm (pre ++ F)) (hw : Wants n ops ρ o true) (hd : dok n o.dst = true)
    (k : ∀ v L', post v L' → ∃ L'', (L' ++ F).Perm (R ++ L'') ∧ TD P n ops R W K Q l (dpush o.dst v ρ) true L'') : TD P n ops R W K Q (i :: l) ρ ph L := fun a hr =>
  .cl (E := fun v L'' => ∃ L', post v L' ∧ (L' ++ F).Perm (R ++ L'') ∧ TD P n ops R W K Q l (dpush o.dst v ρ) true L'') hi hK (hw a hr) (fun w => hc n a w hr) (fun w G hs => by
    have hs' : Sat w (pre ++ (F ++ G)) := hs.perm (by rw [← List.append_assoc]; exact hL.append_right G)
    refine (hf w (F ++ G) hs').mono fun e w' ⟨v, L', he, hp, hs2, hk⟩ => ?_
    obtain ⟨L'', h1, h2⟩ := k v L' hp
    exact ⟨v, L'', he, ⟨L', hp, h1, h2⟩, hs2.perm (by rw [← List.append_assoc]; exact h1.append_right G), hk⟩) (fun v L'' ⟨L', _, _, h⟩ => h _ (hr.put hd v))
/-- the guard isn't known: both ways -/
theorem TD.split {j : Nat} {want b : Bool} {t : Nat} (hi : ops[i]? = some o) (hg : o.guard = some (j, want)) (hj : (ops[j]?).bind (·.dst) = some t) (hv : rget ρ t = some (.bool b)) (hd : dok n o.dst = true)
    (h1 : b = want → TD P n ops R W K Q (i :: l) ρ ph L) (h2 : b = (!want) → TD P n ops R W K Q l (dpush o.dst undef ρ) ph L) : TD P n ops R W K Q (i :: l) ρ ph L := by
  by_cases h : b = want
  · exact h1 h
  · have hb : b = !want := by cases b <;> cases want <;> simp_all
    exact TD.no hi (Wants.no hg hj hv hb) hd (h2 hb)
end
end Go.SL
