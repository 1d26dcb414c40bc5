/- Proved here: the statement CacheLocksSaid: whatever the input, the law returns true and each argument reads as before. No condition. -/
import Derived.Test.YtcgfdjijodlopaaGreatWlocks2
import Derived.Test.YtcgfdjijodlopaaGreatFrm2
import Derived.Test.YtcgfdjijodlopaaGreatRows
set_option linter.all false
/- The frame of CacheLocks. -/
namespace Go.Proofs.YtcgfdjijodlopaaGreat.frCacheLocks
open Go.ChangeShapes Go.WideShapes Go.ChangeAt Go.RowKit Go.SL Go.SL.TryzI
set_option maxRecDepth 100000
theorem own : ownKnob Tryz.prog.godebug = none := by kernel_rfl
theorem laidOut : laidOutB Tryz.prog = true := by kernel_rfl
theorem it3 : IntsT Tryz.prog 3 := .int Tryz.underlying3
theorem it22 : IntsT Tryz.prog 22 := .arr Tryz.underlying22 it3 (by kernel_rfl)
theorem it24 : IntsT Tryz.prog 24 := .str' Tryz.underlying24 (by
  intro f hf
  simp only [List.mem_cons, List.not_mem_nil, or_false] at hf
  rcases hf with rfl | rfl | rfl | rfl | rfl | rfl | rfl | rfl | rfl | rfl | rfl <;> first | exact it3 | exact it22) (by kernel_rfl)
theorem it36 : IntsT Tryz.prog 36 := .arr Tryz.underlying36 it3 (by kernel_rfl)
theorem it38 : IntsT Tryz.prog 38 := .str' Tryz.underlying38 (by
  intro f hf
  simp only [List.mem_cons, List.not_mem_nil, or_false] at hf
  rcases hf with rfl | rfl | rfl | rfl | rfl | rfl | rfl | rfl <;> first | exact it3 | exact it36) (by kernel_rfl)
theorem it43 : IntsT Tryz.prog 43 := .str' Tryz.underlying43 (by
  intro f hf
  simp only [List.mem_cons, List.not_mem_nil, or_false] at hf
  rcases hf with rfl | rfl | rfl <;> first | exact it3) (by kernel_rfl)
theorem it45 : IntsT Tryz.prog 45 := .str' Tryz.underlying45 (by
  intro f hf
  simp only [List.mem_cons, List.not_mem_nil, or_false] at hf
  rcases hf with rfl | rfl | rfl | rfl | rfl <;> first | exact it3 | exact it38 | exact it43) (by kernel_rfl)

theorem cfg_of {cs : Array Value} (h : ∀ v ∈ cs.toList, IntOk v) (hs : cs.size = 13) : ∃ c : Mes.Cfg, cs = encC c ∧ CfgR c := by
  obtain ⟨is, h1, h2⟩ := ints_of h
  have hl : is.length = 13 := by rw [← hs, ← Array.length_toList, h1, List.length_map]
  match is, hl with
  | [a0, a1, a2, a3, a4, a5, a6, a7, a8, a9, a10, a11, a12], _ =>
    refine ⟨⟨a0, a1, a2, a3, a4, a5, a6, a7, a8, a9, a10, a11, a12⟩, Array.ext' (by rw [h1]; rfl), ?_⟩
    refine ⟨h2 a0 (by simp), h2 a1 (by simp), h2 a2 (by simp), h2 a3 (by simp), h2 a4 (by simp), h2 a5 (by simp), h2 a6 (by simp), h2 a7 (by simp), h2 a8 (by simp), h2 a9 (by simp), h2 a10 (by simp), h2 a11 (by simp), h2 a12 (by simp)⟩
theorem step_of {e : List Value} (h : ∀ v ∈ e, IntOk v) (hs : e.length = 21) : ∃ s : Mes.Step, e = encStep s ∧ StepR s := by
  obtain ⟨is, h1, h2⟩ := ints_of h
  have hl : is.length = 21 := by rw [← hs, h1, List.length_map]
  match is, hl with
  | [a0, a1, a2, a3, a4, a5, a6, a7, a8, a9, a10, a11, a12, a13, a14, a15, a16, a17, a18, a19, a20], _ =>
    refine ⟨⟨a0, a1, a2, ⟨a3, a4, a5, a6, a7, a8, a9, ⟨[a10, a11, a12, a13, a14, a15, a16, a17], rfl⟩⟩, ⟨a18, a19, a20⟩⟩, by rw [h1]; rfl, h2 a1 (by simp), h2 a4 (by simp), h2 a19 (by simp)⟩
theorem steps_of : ∀ {es : List (List Value)}, (∀ e ∈ es, ∀ v ∈ e, IntOk v) → (∀ e ∈ es, e.length = 21) → ∃ l : List Mes.Step, es = l.map encStep ∧ ∀ s ∈ l, StepR s
  | [], _, _ => ⟨[], rfl, fun _ h => by cases h⟩
  | e :: es, h1, h2 => by
    obtain ⟨s, rfl, hs⟩ := step_of (h1 e (List.mem_cons_self ..)) (h2 e (List.mem_cons_self ..))
    obtain ⟨l, rfl, hl⟩ := steps_of (es := es) (fun x hx => h1 x (List.mem_cons_of_mem _ hx)) (fun x hx => h2 x (List.mem_cons_of_mem _ hx))
    exact ⟨s :: l, rfl, fun x hx => by rcases List.mem_cons.1 hx with rfl | hx; exact hs; exact hl x hx⟩
theorem r_of {a : Int} (w : (Lit.int .i64 a).wf = true) : R64 a := by
  simpa [Lit.wf, IntKind.min, IntKind.max, IntKind.signed, IntKind.bits, R64] using w
theorem tys : ∀ t ∈ Tryz.f4.params.toList, Tryz.prog.readableRec t = true ∧ t < Tryz.prog.types.size := by
  rw [Tryz.params4]
  intro t ht
  simp only [List.mem_cons, List.not_mem_nil, or_false] at ht
  rcases ht with rfl | rfl | rfl <;> exact ⟨by kernel_rfl, of_decide_eq_true (by kernel_rfl)⟩

theorem lifted (os : Os) (started : os.Started) (H : Type) (enc : TypeId × Value → H) :
    ReturnsInHanded {} Tryz.checked os 4 .any (Rows.cacheLocksSpec.pre6 enc Tryz.prog Tryz.f4 Rows.cacheLocksRow.domain false) (Rows.cacheLocksSpec.post enc Tryz.prog Tryz.f4 false true false false) := by
  refine returnsInHanded_of_change (C := Tryz.checked) own started (by kernel_rfl) Tryz.func4
    (ChangeSpec.witness6 (enc := enc) (C := Tryz.checked) false ⟨#[], #[.agg #[.int .i64 0, .int .i64 0, .int .i64 0, .int .i64 0, .int .i64 0, .int .i64 0, .int .i64 0, .int .i64 0, .int .i64 0, .int .i64 0, .int .i64 0, .int .i64 0, .int .i64 0], .int .i64 0, .slice none 0 0], []⟩ 8 (by kernel_rfl) (by kernel_rfl) (by kernel_rfl) (by kernel_rfl)) ?_
  intro W base args ds gs before hval0 hW _ _
  have hval : ∀ (j : Nat) t v, Tryz.f4.params[j]? = some t → args[j]? = some v → Value.okWide Tryz.prog W .any base t v := hval0
  have hW' := hW
  obtain ⟨p, q, hA0, hV, rfl, hfz, hnd⟩ := hW
  have hA : DataW.TrodAll enc Tryz.prog W 0 (fun _ => true) true Tryz.f4.params.toList args.toList ds p := hA0
  rw [Tryz.params4] at hA hval
  obtain ⟨v0, vs0, d0, ds0, p0, q0, hargs, rfl, rfl, h0, r0⟩ := trodAll_cons hA
  obtain ⟨v1, vs1, d1, ds1, p1, q1, rfl, rfl, rfl, h1, r1⟩ := trodAll_cons r0
  obtain ⟨v2, vs2, d2, ds2, p2, q2, rfl, rfl, rfl, h2, r2⟩ := trodAll_cons r1
  obtain ⟨rfl, rfl, rfl⟩ := trodAll_nil r2
  obtain rfl : args = #[v0, v1, v2] := by cases args; simp_all
  obtain ⟨rfl, rfl⟩ := trodVars_none hV
  obtain ⟨cs0, rfl, hsz0⟩ := okWide_struct Tryz.underlying24 (hval 0 24 v0 rfl rfl)
  obtain ⟨fu0, hf0⟩ := h0
  obtain ⟨c, rfl, hcR⟩ := cfg_of (cs := cs0) (it24.trod hf0) (by rw [hsz0]; kernel_rfl)
  obtain ⟨x1, rfl, rfl, rfl, w1⟩ := open_int Tryz.underlying3 (hval 1 3 v1 rfl rfl) h1
  obtain ⟨a2, len2, cap2, rfl⟩ := okWide_slice Tryz.underlying25 (hval 2 25 v2 rfl rfl)
  obtain ⟨fu2, hf2⟩ := h2
  obtain ⟨es, hesl, hrd, hint, hmx⟩ := open_rows Tryz.underlying25 it45 (show Tryz.prog.cellsOf 45 = 21 by kernel_rfl) (by omega) hf2
  obtain ⟨l, rfl, hl⟩ := steps_of hint hrd.len
  rw [List.length_map] at hesl
  subst hesl
  have hcall := (w_CacheLocks c hcR x1 l hl a2 cap2 (All W) hrd).call
  refine hcall.mono fun e W' ⟨v, he, hv, hb⟩ => ?_
  subst he; subst hv
  exact ⟨_, rfl, post_read hW' laidOut hb tys rfl rfl Tryz.underlying4 rfl⟩
theorem holds : Rows.CacheLocksSaid :=
  OpenClaim.holds_of_wide 4 Tryz.f4 rfl rfl rfl rfl rfl rfl rfl ⟨rfl, rfl, rfl, rfl, rfl⟩ rfl rfl rfl rfl rfl (by kernel_rfl) Tryz.func4 (by kernel_rfl)
    (of_decide_eq_true (by kernel_rfl)) (by unfold Func.isWrapper; first | (rw [if_pos (by decide +kernel)]; kernel_rfl) | (rw [if_neg (by decide +kernel)]; exact ⟨rfl, rfl⟩))
    (fun os started H enc _ => lifted os started H enc)
end Go.Proofs.YtcgfdjijodlopaaGreat.frCacheLocks
