/- A part of proofs about the given program. No condition. -/
import Derived.Test.YtcgfdjijodlopaaGreatSL7
set_option linter.all false
/- More rules. -/
namespace Go.SL
open Go.RowKit
variable {P : Program} {n : Nat}
section
variable {ρ : Regs} {L : List Frag} {d : Option Tmp} {t : TypeId} {p : String} {af : Array Edge} {g : Option (Nat × Bool)}
theorem LD.indexAddrA {T e k len b o : Nat} [hs : ArrT P T len e k] {x y : Operand} {i : Int} {ik : IntKind} (hx : rev ρ x = some (.pointer (some ⟨b, o, none⟩))) (hy : rev ρ y = some (.int ik i)) (hi : 0 ≤ i ∧ i < len) :
    LD P ρ L ⟨d, .indexAddr T x y, t, p, af, g⟩ (.pointer (some ⟨b, o + i.toNat * k, none⟩)) := fun m a w hr _ => by
  simp [execOp, Instr.indexAt, hr.eval hx, hr.eval hy, asIntOf, run_underlying hs.und, hi, hs.size, Addr.add_none, Instr.sureAddr]
theorem LD.indexA {T e k len : Nat} [hs : ArrT P T len e k] [ha : Agg P e k] {x y : Operand} {i : Int} {ik : IntKind} {cs vs : Array Value} (hx : rev ρ x = some (.agg cs)) (hy : rev ρ y = some (.int ik i)) (hi : 0 ≤ i ∧ i < len) (hv : cs.extract (i.toNat * k) (i.toNat * k + k) = vs) :
    LD P ρ L ⟨d, .index T x y, t, p, af, g⟩ (.agg vs) := fun m a w hr _ => by
  simp [execOp, Instr.index, hr.eval hx, hr.eval hy, asIntOf, run_underlying hs.und, hi, hs.size, part, ha.agg, hv]
theorem LD.index1 {T e k len : Nat} [hs : ArrT P T len e k] [ha : One P e] {x y : Operand} {i : Int} {ik : IntKind} {cs : Array Value} {v : Value} (hx : rev ρ x = some (.agg cs)) (hy : rev ρ y = some (.int ik i)) (hi : 0 ≤ i ∧ i < len) (hv : cs[i.toNat * k]? = some v) :
    LD P ρ L ⟨d, .index T x y, t, p, af, g⟩ v := fun m a w hr _ => by
  simp [execOp, Instr.index, hr.eval hx, hr.eval hy, asIntOf, run_underlying hs.und, hi, hs.size, part, ha.agg, hv]
theorem LD.makeFunc {f : Go.Fn} {first cap : Array Operand} {vs us : List Value} (h1 : revl ρ first.toList = some vs) (h2 : revl ρ cap.toList = some us) : LD P ρ L ⟨d, .makeFunc f first cap, t, p, af, g⟩ (.func f vs.toArray us.toArray) := fun m a w hr _ => by
  have e1 := revl_eval hr h1
  have e2 := revl_eval hr h2
  have e1' : first.map a.eval = vs.toArray := by rw [← e1, ← Array.toList_map, Array.toArray_toList]
  have e2' : cap.map a.eval = us.toArray := by rw [← e2, ← Array.toList_map, Array.toArray_toList]
  simp [execOp, Instr.makeFunc, e1', e2']
theorem LD.nilCheckF {x : Operand} {f : FuncId} {a b : Array Value} (h : rev ρ x = some (.func (.func f) a b)) : LD P ρ L ⟨d, .nilCheck x, t, p, af, g⟩ (.func (.func f) a b) := fun n a w hr _ => by simp [execOp, hr.eval h]
end
section
variable {Q : Post} {ρ : Regs} {L : List Frag}
/-- a loop; what a round leaves behind is forgotten -/
theorem TC.loopd {α : Type} {c : Code} (ρI : α → Regs) (LI : α → List Frag) (I : α → Prop) (μ : α → Nat) (x0 : α) (hI : I x0) (hρ : subr (ρI x0) ρ) (hL : ∃ X, L.Perm (X ++ LI x0))
    (round : ∀ x, I x → TC P n (Post.seq (fun ρ' L' => ∃ y, I y ∧ μ y < μ x ∧ subr (ρI y) ρ' ∧ ∃ X, L'.Perm (X ++ LI y)) Q) c (ρI x) (LI x)) : TC P n Q (.loop c) ρ L := fun a w hr hs => by
  refine wp_loop_ghost (fun k a' w' => ∃ x, I x ∧ μ x = k ∧ Rep n a' (ρI x) ∧ Sat w' (LI x) ∧ Keep w w') (μ x0) ?_ ?_
  · obtain ⟨X, hX⟩ := hL
    exact ⟨x0, hI, rfl, hr.weak (subr_get hρ), (hs.perm hX).of_sublist (List.sublist_append_right X _), Keep.refl w⟩
  · rintro k a' w' ⟨x, h1, rfl, h3, h4, h5⟩
    refine Code_mono (fun e a'' w'' hl => ?_) (round x h1 a' w' h3 h4)
    obtain ⟨ρ', L', g1, g2, g3, g4⟩ := hl
    cases e with
    | normal =>
      obtain ⟨y, y1, y2, y3, X, y4⟩ := g4
      exact ⟨μ y, y2, y, y1, rfl, g1.weak (subr_get y3), (g2.perm y4).of_sublist (List.sublist_append_right X _), h5.trans g3⟩
    | _ => exact ⟨ρ', L', g1, g2, h5.trans g3, g4⟩
end
end Go.SL
