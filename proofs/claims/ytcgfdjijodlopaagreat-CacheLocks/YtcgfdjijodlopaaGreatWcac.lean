/- A part of proofs about the given program. No condition. -/
import Derived.Test.YtcgfdjijodlopaaGreatWmsg
import Derived.Test.YtcgfdjijodlopaaGreatPa
set_option linter.all false
namespace Go.SL.TryzI
open Go Go.Proofs Go.SL
set_option maxRecDepth 100000


theorem bne_int (a b : Int) : (a != b) = !decide (a = b) := rfl
open Mes in
def applyV (r : Words × Int × Int) : Value := .tuple [.agg (encW r.1).toArray, i r.2.1, i r.2.2].toArray
open Mes in
theorem words_set (w : Words) {k : Nat} (hk : k < 8) (v : Int) : (encW w).set k (i v) = encW (w.set k v) := by
  have e : ∀ w : Words, encW w = w.l.map i := fun w => by rw [words_list w]; rfl
  rw [e, e, Words.set, List.map_set]

open Mes in
theorem w_Apply (c : Cfg) (hc : CfgR c) (words : Words) (x : Mes.Op) (hx : R64 x.addr) : FnP Tryz.prog 66 [.agg (encC c), .agg (encW words).toArray, .agg (encO x).toArray] (fun v => v = applyV (applyOp c words x)) := by
  refine Fn.body Tryz.func66 rfl rfl rfl (Nat.le_of_ble_eq_true rfl) fun F => ?_
  refine TC.seq ?_
  refine TC.region ?_
  refine TL.nb (NB.boxA rfl) (Wants.un rfl) rfl (fun b3 => ?_)
  refine TL.nb (NB.boxA rfl) (Wants.un rfl) rfl (fun b4 => ?_)
  refine TL.nb (NB.boxA rfl) (Wants.un rfl) rfl (fun b5 => ?_)
  refine TL.nb NB.alloc (Wants.un rfl) rfl (fun b6 => ?_)
  refine .q (LD.assign rfl) rfl rfl ?_
  refine .q (LD.assign rfl) rfl rfl ?_
  refine TL.nilS ?_
  refine TC.seq ?_
  refine TC.region ?_
  refine .q (LD.ldA rfl m3 (by repeat constructor) rfl) rfl rfl ?_
  refine .q (LD.fieldAddr rfl) rfl rfl ?_
  refine .q (LD.ld1 rfl m1 rfl) rfl rfl ?_
  refine TL.cp (CL.func rfl) (w_Addr c hc x.addr hx) (Wants.un rfl) rfl ?_
  rintro _ rfl
  refine .q (LD.move rfl) rfl rfl ?_
  refine .q (LD.ex rfl rfl) rfl rfl ?_
  refine .q (LD.ex rfl rfl) rfl rfl ?_
  refine .q (LD.ex rfl rfl) rfl rfl ?_
  refine .q (LD.assign rfl) rfl rfl ?_
  refine .q (LD.assign rfl) rfl rfl ?_
  refine .q (LD.assign rfl) rfl rfl ?_
  refine TL.nilS ?_
  refine TC.seq ?_
  refine TC.seq ?_
  refine TC.region ?_
  refine .q (LD.move rfl) rfl rfl ?_
  refine .q (LD.neq rfl rfl) rfl rfl ?_
  refine .q (LD.move rfl) rfl rfl ?_
  refine TL.split rfl rfl rfl rfl (fun g1 => ?_) (fun g1 => ?_)
  · have h1 := g1
    try simp at h1
    refine .y (LD.ldA rfl m1 (by repeat constructor) rfl) g1 rfl rfl rfl rfl ?_
    refine TL.cp (CL.func rfl) (w_May _) (Wants.yes rfl rfl rfl g1) rfl ?_
    rintro _ rfl
    refine .y (LD.not rfl) g1 rfl rfl rfl rfl ?_
    refine .q (LD.pickF rfl g1 rfl) rfl rfl ?_
    refine .q (LD.move rfl) rfl rfl ?_
    refine TL.split rfl rfl rfl rfl (fun g2 => ?_) (fun g2 => ?_)
    · have h2 := g2
      try simp at h2
      refine .y (LD.fieldAddr rfl) g2 rfl rfl rfl rfl ?_
      refine .y (LD.ld1 rfl m1 rfl) g2 rfl rfl rfl rfl ?_
      refine .y (LD.eql rfl rfl) g2 rfl rfl rfl rfl ?_
      refine .q (LD.pickF rfl g2 rfl) rfl rfl ?_
      refine TL.nilS ?_
      refine TC.cond rfl (fun g3 => ?_) (fun g3 => ?_)
      · have h3 := g3
        try simp at h3
        refine TC.seq ?_
        refine TC.region ?_
        refine .q (LD.bA rfl rfl (by repeat constructor)) rfl rfl ?_
        refine .e (EF.stA (i := 0) rfl rfl rfl rfl rfl rfl (by repeat constructor)) rfl rfl ?_
        refine .q (LD.assign rfl) rfl rfl ?_
        refine .q (LD.assign rfl) rfl rfl ?_
        refine TL.nilS ?_
        refine TC.ret ?_
        repeat first | refine Post.sr ?_ | refine Post.br ?_
        have e : applyOp c words x = (Mes.Words.zero, 0, 1) := by unfold applyOp; rw [if_pos (by cases hq : c.ok <;> cases hq2 : inR x.addr c.size <;> simp_all)]
        exact Out.intro (X := [_, _, _, _]) (L' := []) (Res.c rfl (LV.aggL m0 (by repeat constructor) rfl) (Res.t rfl (Res.t rfl Res.z))) ⟨by rw [e]; rfl, rfl⟩ (.refl _)
      · have h3 := g3
        try simp at h3
        refine TC.skipS ?_
        refine TC.seq ?_
        have hok : c.ok = true := by cases hq : c.ok <;> simp_all
        have hin : inR x.addr c.size = true := by cases hq : inR x.addr c.size <;> simp_all
        obtain ⟨kk, hk8⟩ : ∃ n : Nat, n = c.wordOf x.addr := ⟨_, rfl⟩
        have hkw : x.addr % c.words = (kk : Int) ∧ kk < 8 := by
          obtain ⟨j, _, e, e'⟩ := (okS hok).words
          have := pow_pos j
          have h1 : 0 ≤ x.addr % c.words := Int.emod_nonneg _ (by omega)
          have h2 : x.addr % c.words < c.words := Int.emod_lt_of_pos _ (by omega)
          rw [hk8]; unfold Cfg.wordOf; omega
        rw [hok, hin, Bool.true_and, hkw.1]
        simp only [cond_true]
        refine TC.drawX (R := [_, _]) [0, 0, 0, 2, 0] [0, 1, 2, 3, 4] TryzI.mixed (by decide +kernel) (no4 (by decide)) rfl ?_
        refine .q rfl rfl (LD.move rfl) rfl rfl ?_
        refine .q rfl rfl (LD.indexAddrA rfl rfl (by omega)) rfl rfl ?_
        rw [Nat.zero_add, Int.toNat_natCast, Nat.mul_one]
        refine .q rfl rfl (LD.ldA rfl m1 (by repeat constructor) rfl) rfl rfl ?_
        refine TD.cwX (j := 0) rfl rfl (CL.func rfl) (w_touch 36 b4 kk (encW words).toArray (words.get kk) x (by simpa using encW_get words hkw.2)) rfl (Wants.un rfl) rfl ?_
        rintro _ _ ⟨rfl, rfl⟩
        rw [show (encW words).toArray.setIfInBounds kk (i (touch (words.get kk) x).1) = (encW (words.set kk (touch (words.get kk) x).1)).toArray by rw [← words_set words hkw.2]; simp]
        refine .q rfl rfl (LD.assign rfl) rfl rfl ?_
        refine TD.nilX ?_
        refine TC.seq ?_
        refine TC.region ?_
        refine .q (LD.ldA rfl m2 (by repeat constructor) rfl) rfl rfl ?_
        refine .q (LD.move rfl) rfl rfl ?_
        refine .e (EF.stA (i := 0) rfl rfl rfl rfl rfl rfl (by repeat constructor)) rfl rfl ?_
        refine .q (LD.assign rfl) rfl rfl ?_
        refine .q (LD.assign rfl) rfl rfl ?_
        refine TL.nilS ?_
        refine TC.ret ?_
        repeat first | refine Post.sr ?_ | refine Post.br ?_
        have e : applyOp c words x = (words.set kk (touch (words.get kk) x).1, (touch (words.get kk) x).2, 0) := by unfold applyOp; rw [← hk8, if_neg (by simp_all)]
        exact Out.intro (X := [_, _, _, _]) (L' := []) (Res.c rfl (LV.aggL m0 (by repeat constructor) rfl) (Res.t rfl (Res.t rfl Res.z))) ⟨by rw [e]; rfl, rfl⟩ (.refl _)
    · have h2 := g2
      try simp at h2
      refine .s g2 rfl rfl rfl rfl ?_
      refine .s g2 rfl rfl rfl rfl ?_
      refine .q (LD.pickT rfl g2 rfl) rfl rfl ?_
      refine TL.nilS ?_
      refine TC.condT rfl rfl ?_
      refine TC.seq ?_
      refine TC.region ?_
      refine .q (LD.bA rfl rfl (by repeat constructor)) rfl rfl ?_
      refine .e (EF.stA (i := 0) rfl rfl rfl rfl rfl rfl (by repeat constructor)) rfl rfl ?_
      refine .q (LD.assign rfl) rfl rfl ?_
      refine .q (LD.assign rfl) rfl rfl ?_
      refine TL.nilS ?_
      refine TC.ret ?_
      repeat first | refine Post.sr ?_ | refine Post.br ?_
      have e : applyOp c words x = (Mes.Words.zero, 0, 1) := by unfold applyOp; rw [if_pos (by cases hq : c.ok <;> cases hq2 : inR x.addr c.size <;> simp_all)]
      exact Out.intro (X := [_, _, _, _]) (L' := []) (Res.c rfl (LV.aggL m0 (by repeat constructor) rfl) (Res.t rfl (Res.t rfl Res.z))) ⟨by rw [e]; rfl, rfl⟩ (.refl _)
  · have h1 := g1
    try simp at h1
    refine .s g1 rfl rfl rfl rfl ?_
    refine .s g1 rfl rfl rfl rfl ?_
    refine .q (LD.pickT rfl g1 rfl) rfl rfl ?_
    refine .q (LD.move rfl) rfl rfl ?_
    refine .s rfl rfl rfl rfl rfl ?_
    refine .s rfl rfl rfl rfl rfl ?_
    refine .s rfl rfl rfl rfl rfl ?_
    refine .q (LD.pickT rfl rfl rfl) rfl rfl ?_
    refine TL.nilS ?_
    refine TC.condT rfl rfl ?_
    refine TC.seq ?_
    refine TC.region ?_
    refine .q (LD.bA rfl rfl (by repeat constructor)) rfl rfl ?_
    refine .e (EF.stA (i := 0) rfl rfl rfl rfl rfl rfl (by repeat constructor)) rfl rfl ?_
    refine .q (LD.assign rfl) rfl rfl ?_
    refine .q (LD.assign rfl) rfl rfl ?_
    refine TL.nilS ?_
    refine TC.ret ?_
    repeat first | refine Post.sr ?_ | refine Post.br ?_
    have e : applyOp c words x = (Mes.Words.zero, 0, 1) := by unfold applyOp; rw [if_pos (by cases hq : c.ok <;> cases hq2 : inR x.addr c.size <;> simp_all)]
    exact Out.intro (X := [_, _, _, _]) (L' := []) (Res.c rfl (LV.aggL m0 (by repeat constructor) rfl) (Res.t rfl (Res.t rfl Res.z))) ⟨by rw [e]; rfl, rfl⟩ (.refl _)

open Mes in
/-- a cache's own cells -/
def CacP (p : Nat) (c : Cfg) (core : Int) (pa pf pb : Nat) : Frag := blk p 155 [i c.cores, i c.homes, i c.sets, i c.ways, i c.words, i c.lines, i c.pointers, i c.mshrs, i c.buffer, i c.writebacks, i c.r0, i c.r1, i c.r2, i core, .pointer (some ⟨pa, 0, none⟩), .pointer (some ⟨pf, 0, none⟩), .pointer (some ⟨pb, 0, none⟩)].toArray
open Mes in
theorem findV_eq (c : Cfg) (a : List Mes.Way) (line : Int) : findV c a line = .tuple [.agg (encWay (lookWay c a line)).toArray, i ((placeOf c a line).getD 0 : Nat), .bool (findWay c a line).isSome].toArray := by
  unfold findV lookWay
  cases h : placeOf c a line with
  | none => rw [show findWay c a line = none from find_none_idx h]; rfl
  | some j =>
    obtain ⟨w, hw, _, _, hf⟩ := place_get h
    rw [hf]
    simp only [List.getD_eq_getElem?_getD, hw, Option.getD_some]
    rfl
open Mes in
def lookV (c : Cfg) (a : List Mes.Way) (line : Int) : Value := .tuple [.agg (encWay (lookWay c a line)).toArray, .bool (findWay c a line).isSome].toArray
open Mes in
theorem layE_free {c : Cfg} {a : List Mes.Way} {line : Int} {w : Nat} (hp : placeOf c a line = none) (hf : freeOf c a line = some w) : layE c a line w = 0 := by
  obtain ⟨x, hx, hxl, _⟩ := findIdx_map hf
  have h1 := (List.getElem?_eq_some_iff.1 hx).1
  unfold layE
  rw [if_neg (by omega), hp, if_neg (by simp), Int.toNat_natCast, List.getD_eq_getElem?_getD, hx, if_neg (by simpa using hxl)]
open Mes in
theorem place_find {c : Cfg} {a : List Mes.Way} {line : Int} : (findWay c a line).isSome = (placeOf c a line).isSome := by
  cases h : placeOf c a line with
  | none => rw [show findWay c a line = none from find_none_idx h]; rfl
  | some j => obtain ⟨w, hw, _, _, hf⟩ := place_get h; rw [hf]; rfl
theorem updWay_len (c : Mes.Cfg) (a : List Mes.Way) (line : Int) (f : Mes.Way → Mes.Way) : (Mes.updWay c a line f).length = a.length := by
  unfold Mes.updWay; split
  · rfl
  · exact List.length_modify ..
theorem setWay_len (c : Mes.Cfg) (a : List Mes.Way) (line state : Int) (w : Mes.Words) : (Mes.setWay c a line state w).length = a.length := by
  unfold Mes.setWay; split
  · rfl
  · exact updWay_len ..
theorem lockWay_len (c : Mes.Cfg) (a : List Mes.Way) (line : Int) (l : Bool) : (Mes.lockWay c a line l).length = a.length := updWay_len ..
theorem layWay_len (c : Mes.Cfg) (a : List Mes.Way) (line : Int) (w : Nat) : (Mes.layWay c a line w).length = a.length := List.length_set
open Mes in
/-- what a call leaves behind of a cache -/
def CacPost (c : Cfg) (core : Int) (p pa ba pf pb : Nat) (V : Value) (k : Cache) (u : Value) (L' : List Frag) : Prop := u = V ∧ ∃ rf rb, IsFile c.mshrs k.f pf rf ∧ IsBuf c.writebacks k.b pb rb ∧ L' = [CacP p c core pa pf pb, ArrF pa ba c k.a, rf, rb]

open Mes in
theorem w_owns (s : Int) : FnP Tryz.prog 70 [i s] (fun v => v = .bool (decide (2 ≤ s))) := by
  refine Fn.body Tryz.func70 rfl rfl rfl (Nat.le_of_ble_eq_true rfl) fun F => ?_
  refine TC.seq ?_
  refine TC.region ?_
  refine .q (LD.assign rfl) rfl rfl ?_
  refine TL.nilS ?_
  refine TC.seq ?_
  refine TC.region ?_
  refine .q (LD.move rfl) rfl rfl ?_
  refine .q (LD.geq rfl rfl) rfl rfl ?_
  refine .q (LD.assign rfl) rfl rfl ?_
  refine TL.nilS ?_
  refine TC.ret ?_
  repeat first | refine Post.sr ?_ | refine Post.br ?_
  exact Out.intro (X := []) (L' := []) (Res.t rfl Res.z) ⟨rfl, rfl⟩ (.refl _)
open Mes in
theorem w_Look (c : Cfg) (hc : CfgR c) (hok : c.ok = true) (core : Int) (a : List Mes.Way) (ha : (a.length : Int) = c.sets * c.ways) (p pa ba pf pb : Nat) (hpab : pa ≠ ba) (line : Int) (hline : R64 line) : Fn Tryz.prog 17 [.pointer (some ⟨p, 0, none⟩), i line] [CacP p c core pa pf pb, ArrF pa ba c a] (fun u L' => u = lookV c a line ∧ L' = [CacP p c core pa pf pb, ArrF pa ba c a]) := by
  refine Fn.body Tryz.func17 rfl rfl rfl (Nat.le_of_ble_eq_true rfl) fun F => ?_
  refine TC.seq ?_
  refine TC.region ?_
  refine TL.nb NB.alloc (Wants.un rfl) rfl (fun b4 => ?_)
  refine .q (LD.assign rfl) rfl rfl ?_
  refine TL.nilS ?_
  refine TC.seq ?_
  refine TC.region ?_
  refine .q (LD.move rfl) rfl rfl ?_
  refine .q (LD.nilCheck rfl) rfl rfl ?_
  refine .q (LD.fieldAddr rfl) rfl rfl ?_
  refine .q (LD.ld1 rfl m1 rfl) rfl rfl ?_
  refine .q (LD.move rfl) rfl rfl ?_
  refine TL.cr (CL.func rfl) (w_Find c hc hok a ha pa ba hpab line hline) m2 (Wants.un rfl) rfl ?_
  rintro _ rfl
  rw [findV_eq]
  refine .q (LD.move rfl) rfl rfl ?_
  refine .q (LD.ex rfl rfl) rfl rfl ?_
  refine .q (LD.ex rfl rfl) rfl rfl ?_
  refine .q (LD.ex rfl rfl) rfl rfl ?_
  refine TL.nb NB.alloc (Wants.un rfl) rfl (fun b6 => ?_)
  refine .e (EF.stA (i := 0) rfl rfl rfl rfl rfl rfl (by repeat constructor)) rfl rfl ?_
  refine .q (LD.assign rfl) rfl rfl ?_
  refine .q (LD.assign rfl) rfl rfl ?_
  refine TL.nilS ?_
  refine TC.seq ?_
  refine TC.region ?_
  refine .q (LD.ldA rfl m0 (by repeat constructor) rfl) rfl rfl ?_
  refine .q (LD.move rfl) rfl rfl ?_
  refine .e (EF.stA (i := 1) rfl rfl rfl rfl rfl rfl (by repeat constructor)) rfl rfl ?_
  refine .q (LD.assign rfl) rfl rfl ?_
  refine TL.nilS ?_
  refine TC.ret ?_
  repeat first | refine Post.sr ?_ | refine Post.br ?_
  exact Out.intro (X := [_, _]) (L' := [_, _]) (Res.c rfl (LV.aggL m1 (by repeat constructor) rfl) (Res.t rfl Res.z)) ⟨rfl, rfl⟩ (.refl _)

open Mes in
theorem atV_eq (c : Cfg) (a : List Mes.Way) (set way : Int) : atV c a set way = .tuple [.agg (encWay ((wayAt c a set way).getD Mes.Way.none)).toArray, .bool (wayAt c a set way).isSome].toArray := by
  unfold atV
  cases wayAt c a set way <;> rfl

open Mes in
theorem w_Way (c : Cfg) (hc : CfgR c) (hok : c.ok = true) (core : Int) (a : List Mes.Way) (ha : (a.length : Int) = c.sets * c.ways) (p pa ba pf pb : Nat) (hpab : pa ≠ ba) (set way : Int) : Fn Tryz.prog 22 [.pointer (some ⟨p, 0, none⟩), i set, i way] [CacP p c core pa pf pb, ArrF pa ba c a] (fun u L' => u = atV c a set way ∧ L' = [CacP p c core pa pf pb, ArrF pa ba c a]) := by
  refine Fn.body Tryz.func22 rfl rfl rfl (Nat.le_of_ble_eq_true rfl) fun F => ?_
  refine TC.seq ?_
  refine TC.region ?_
  refine TL.nb NB.alloc (Wants.un rfl) rfl (fun b6 => ?_)
  refine .q (LD.assign rfl) rfl rfl ?_
  refine TL.nilS ?_
  refine TC.seq ?_
  refine TC.region ?_
  refine .q (LD.move rfl) rfl rfl ?_
  refine .q (LD.nilCheck rfl) rfl rfl ?_
  refine .q (LD.fieldAddr rfl) rfl rfl ?_
  refine .q (LD.ld1 rfl m1 rfl) rfl rfl ?_
  refine .q (LD.move rfl) rfl rfl ?_
  refine .q (LD.move rfl) rfl rfl ?_
  refine TL.cr (CL.func rfl) (w_At c hok a ha pa ba hpab set way) m2 (Wants.un rfl) rfl ?_
  rintro _ rfl
  rw [atV_eq]
  refine .q (LD.ex rfl rfl) rfl rfl ?_
  refine .q (LD.ex rfl rfl) rfl rfl ?_
  refine .e (EF.stA (i := 0) rfl rfl rfl rfl rfl rfl (by repeat constructor)) rfl rfl ?_
  refine .q (LD.assign rfl) rfl rfl ?_
  refine TL.nilS ?_
  refine TC.ret ?_
  repeat first | refine Post.sr ?_ | refine Post.br ?_
  exact Out.intro (X := [_]) (L' := [_, _]) (Res.c rfl (LV.aggL m0 (by repeat constructor) rfl) (Res.t rfl Res.z)) ⟨rfl, rfl⟩ (.refl _)
open Mes in
theorem w_home (c : Cfg) (hc : CfgR c) (hok : c.ok = true) (core : Int) (p pa pf pb : Nat) (kind line : Int) (hin : inR line c.lines = true) (hline : R64 line) : Fn Tryz.prog 72 [.pointer (some ⟨p, 0, none⟩), i kind, i line] [CacP p c core pa pf pb] (fun u L' => u = .agg (encMsg ⟨kind, line, core, c.homeOf line, 0, 0, 0, Words.zero⟩).toArray ∧ L' = [CacP p c core pa pf pb]) := by
  refine Fn.body Tryz.func72 rfl rfl rfl (Nat.le_of_ble_eq_true rfl) fun F => ?_
  refine TC.seq ?_
  refine TC.region ?_
  refine TL.nb NB.alloc (Wants.un rfl) rfl (fun b6 => ?_)
  refine TL.nilS ?_
  refine TC.seq ?_
  refine TC.region ?_
  refine .q (LD.move rfl) rfl rfl ?_
  refine .q (LD.nilCheck rfl) rfl rfl ?_
  refine .q (LD.fieldAddr rfl) rfl rfl ?_
  refine .q (LD.ldA rfl m1 (by repeat constructor) rfl) rfl rfl ?_
  refine .q (LD.move rfl) rfl rfl ?_
  refine TL.cp (CL.func rfl) (w_Line c hc line hline) (Wants.un rfl) rfl ?_
  rintro _ rfl
  rw [hok, hin]
  simp only [Bool.true_and, cond_true]
  refine .q (LD.move rfl) rfl rfl ?_
  refine .q (LD.ex rfl rfl) rfl rfl ?_
  refine .q (LD.ex rfl rfl) rfl rfl ?_
  refine .q (LD.ex rfl rfl) rfl rfl ?_
  refine .q (LD.ex rfl rfl) rfl rfl ?_
  refine .q (LD.assign rfl) rfl rfl ?_
  refine .q (LD.assign rfl) rfl rfl ?_
  refine .q (LD.assign rfl) rfl rfl ?_
  refine .q (LD.assign rfl) rfl rfl ?_
  refine TL.nilS ?_
  refine TC.seq ?_
  refine TC.region ?_
  refine .q (LD.move rfl) rfl rfl ?_
  refine .q (LD.move rfl) rfl rfl ?_
  refine .q (LD.move rfl) rfl rfl ?_
  refine .q (LD.nilCheck rfl) rfl rfl ?_
  refine .q (LD.fieldAddr rfl) rfl rfl ?_
  refine .q (LD.ld1 rfl m1 rfl) rfl rfl ?_
  refine .q (LD.move rfl) rfl rfl ?_
  refine .q (LD.bS rfl rfl (by repeat constructor)) rfl rfl ?_
  refine .e (EF.stA (i := 0) rfl rfl rfl rfl rfl rfl (by repeat constructor)) rfl rfl ?_
  refine TL.nilS ?_
  refine TC.ret ?_
  repeat first | refine Post.sr ?_ | refine Post.br ?_
  exact Out.intro (X := [_]) (L' := [_]) (Res.c rfl (LV.aggL m0 (by repeat constructor) rfl) Res.z) ⟨rfl, rfl⟩ (.refl _)
open Mes in
theorem w_can (c : Cfg) (hc : CfgR c) (hok : c.ok = true) (core : Int) (a : List Mes.Way) (ha : (a.length : Int) = c.sets * c.ways) (p pa ba pf pb : Nat) (hpab : pa ≠ ba) (line kind : Int) (hline : R64 line) : Fn Tryz.prog 67 [.pointer (some ⟨p, 0, none⟩), i line, i kind] [CacP p c core pa pf pb, ArrF pa ba c a] (fun u L' => u = .bool (canDo (lookWay c a line).state kind) ∧ L' = [CacP p c core pa pf pb, ArrF pa ba c a]) := by
  refine Fn.body Tryz.func67 rfl rfl rfl (Nat.le_of_ble_eq_true rfl) fun F => ?_
  refine TC.seq ?_
  refine TC.region ?_
  refine .q (LD.assign rfl) rfl rfl ?_
  refine TL.nilS ?_
  refine TC.seq ?_
  refine TC.region ?_
  refine .q (LD.move rfl) rfl rfl ?_
  refine .q (LD.move rfl) rfl rfl ?_
  refine TL.clX (X := []) (pre := [_, _]) (CL.func rfl) (w_Look c hc hok core a ha p pa ba pf pb hpab line hline) rfl (Wants.un rfl) rfl ?_
  rintro _ _ ⟨rfl, rfl⟩
  refine .q (LD.move rfl) rfl rfl ?_
  refine .q (LD.ex rfl rfl) rfl rfl ?_
  refine .q (LD.ex rfl rfl) rfl rfl ?_
  refine TL.nb NB.alloc (Wants.un rfl) rfl (fun b7 => ?_)
  refine .e (EF.stA (i := 0) rfl rfl rfl rfl rfl rfl (by repeat constructor)) rfl rfl ?_
  refine .q (LD.assign rfl) rfl rfl ?_
  refine TL.nilS ?_
  refine TC.seq ?_
  refine TC.seq ?_
  refine TC.region ?_
  refine .q (LD.move rfl) rfl rfl ?_
  refine .q (LD.eql rfl rfl) rfl rfl ?_
  refine TL.nilS ?_
  refine TC.cond rfl (fun g1 => ?_) (fun g1 => ?_)
  · have h1 := g1
    try simp at h1
    refine TC.seq ?_
    refine TC.region ?_
    refine .q (LD.fieldAddr rfl) rfl rfl ?_
    refine .q (LD.ld1 rfl m0 rfl) rfl rfl ?_
    refine .q (LD.neq rfl rfl) rfl rfl ?_
    refine .q (LD.assign rfl) rfl rfl ?_
    refine TL.nilS ?_
    refine TC.ret ?_
    repeat first | refine Post.sr ?_ | refine Post.br ?_
    exact Out.intro (X := [_]) (L' := [_, _]) (Res.t rfl Res.z) ⟨by simp_all [canDo, pack, beq_int, bne_int], rfl⟩ (.refl _)
  · have h1 := g1
    try simp at h1
    refine TC.skipS ?_
    refine TC.seq ?_
    refine TC.region ?_
    refine .q (LD.fieldAddr rfl) rfl rfl ?_
    refine .q (LD.ld1 rfl m0 rfl) rfl rfl ?_
    refine .q (LD.eql rfl rfl) rfl rfl ?_
    refine .q (LD.move rfl) rfl rfl ?_
    refine TL.split rfl rfl rfl rfl (fun g2 => ?_) (fun g2 => ?_)
    · have h2 := g2
      try simp at h2
      refine .y (LD.fieldAddr rfl) g2 rfl rfl rfl rfl ?_
      refine .y (LD.ld1 rfl m0 rfl) g2 rfl rfl rfl rfl ?_
      refine .y (LD.eql rfl rfl) g2 rfl rfl rfl rfl ?_
      refine .q (LD.pickF rfl g2 rfl) rfl rfl ?_
      refine .q (LD.assign rfl) rfl rfl ?_
      refine TL.nilS ?_
      refine TC.ret ?_
      repeat first | refine Post.sr ?_ | refine Post.br ?_
      exact Out.intro (X := [_]) (L' := [_, _]) (Res.t rfl Res.z) ⟨by simp_all [canDo, pack, beq_int, bne_int], rfl⟩ (.refl _)
    · have h2 := g2
      try simp at h2
      refine .s g2 rfl rfl rfl rfl ?_
      refine .s g2 rfl rfl rfl rfl ?_
      refine .q (LD.pickT rfl g2 rfl) rfl rfl ?_
      refine .q (LD.assign rfl) rfl rfl ?_
      refine TL.nilS ?_
      refine TC.ret ?_
      repeat first | refine Post.sr ?_ | refine Post.br ?_
      exact Out.intro (X := [_]) (L' := [_, _]) (Res.t rfl Res.z) ⟨by simp_all [canDo, pack, beq_int, bne_int], rfl⟩ (.refl _)

open Mes in
def askV (r : Cache × Msg × Int) : Value := .tuple [.agg (encMsg r.2.1).toArray, i r.2.2].toArray
open Mes in
theorem lookState {c : Cfg} {a : List Mes.Way} {line : Int} (h : findWay c a line = none) : (lookWay c a line).state = 0 := by unfold lookWay; rw [h]; rfl

open Mes in
theorem w_Ask (c : Cfg) (hc : CfgR c) (hok : c.ok = true) (core : Int) (a : List Mes.Way) (ha : (a.length : Int) = c.sets * c.ways) (p pa ba pf pb : Nat) (hpab : pa ≠ ba) (fl : List Miss) (hfl : fl.length ≤ 100000) (bl : List WB) (hbl : bl.length ≤ 100000) (rf rb : Frag) (hF : IsFile c.mshrs fl pf rf) (hB : IsBuf c.writebacks bl pb rb) (line kind : Int) (hline : R64 line) : Fn Tryz.prog 25 [.pointer (some ⟨p, 0, none⟩), i line, i kind] [CacP p c core pa pf pb, ArrF pa ba c a, rf, rb] (CacPost c core p pa ba pf pb (askV ((⟨c, core, a, fl, bl⟩ : Cache).ask line kind)) ((⟨c, core, a, fl, bl⟩ : Cache).ask line kind).1) := by
  refine Fn.body Tryz.func25 rfl rfl rfl (Nat.le_of_ble_eq_true rfl) fun F => ?_
  refine TC.seq ?_
  refine TC.region ?_
  refine TL.nb NB.alloc (Wants.un rfl) rfl (fun b6 => ?_)
  refine .q (LD.assign rfl) rfl rfl ?_
  refine TL.nilS ?_
  refine TC.seq ?_
  refine TC.region ?_
  refine .q (LD.move rfl) rfl rfl ?_
  refine .q (LD.nilCheck rfl) rfl rfl ?_
  refine .q (LD.fieldAddr rfl) rfl rfl ?_
  refine .q (LD.ldA rfl m1 (by repeat constructor) rfl) rfl rfl ?_
  refine .q (LD.move rfl) rfl rfl ?_
  refine TL.cp (CL.func rfl) (w_Line c hc line hline) (Wants.un rfl) rfl ?_
  rintro _ rfl
  rw [hok, Bool.true_and, show (bif inR line c.lines then Value.tuple #[i (line % c.homes), i (line % c.sets), i (line / c.sets), i 0] else Value.tuple #[i 0, i 0, i 0, i 1]) = Value.tuple #[i (bif inR line c.lines then line % c.homes else 0), i (bif inR line c.lines then line % c.sets else 0), i (bif inR line c.lines then line / c.sets else 0), i (bif inR line c.lines then 0 else 1)] from by cases inR line c.lines <;> rfl]
  refine .q (LD.move rfl) rfl rfl ?_
  refine .q (LD.ex rfl rfl) rfl rfl ?_
  refine .q (LD.ex rfl rfl) rfl rfl ?_
  refine .q (LD.ex rfl rfl) rfl rfl ?_
  refine .q (LD.ex rfl rfl) rfl rfl ?_
  refine .q (LD.assign rfl) rfl rfl ?_
  refine .q (LD.assign rfl) rfl rfl ?_
  refine .q (LD.assign rfl) rfl rfl ?_
  refine .q (LD.assign rfl) rfl rfl ?_
  refine TL.nilS ?_
  refine TC.seq ?_
  refine TC.seq ?_
  refine TC.region ?_
  refine .q (LD.move rfl) rfl rfl ?_
  refine .q (LD.neq rfl rfl) rfl rfl ?_
  refine .q (LD.move rfl) rfl rfl ?_
  refine TL.split rfl rfl rfl rfl (fun g1 => ?_) (fun g1 => ?_)
  · have h1 := g1
    try simp at h1
    refine .y (LD.move rfl) g1 rfl rfl rfl rfl ?_
    refine .y (LD.neq rfl rfl) g1 rfl rfl rfl rfl ?_
    refine .y (LD.move rfl) g1 rfl rfl rfl rfl ?_
    refine TL.split rfl rfl rfl rfl (fun g2 => ?_) (fun g2 => ?_)
    · have h2 := g2
      try simp at h2
      refine .y (LD.move rfl) g2 rfl rfl rfl rfl ?_
      refine .y (LD.neq rfl rfl) g2 rfl rfl rfl rfl ?_
      refine .y (LD.pickT rfl g2 rfl) g1 rfl rfl rfl rfl ?_
      refine .q (LD.pickF rfl g1 rfl) rfl rfl ?_
      refine TL.nilS ?_
      refine TC.cond rfl (fun g3 => ?_) (fun g3 => ?_)
      · have h3 := g3
        try simp at h3
        refine TC.seq ?_
        refine TC.region ?_
        refine .q (LD.bS rfl rfl (by repeat constructor)) rfl rfl ?_
        refine .e (EF.stA (i := 0) rfl rfl rfl rfl rfl rfl (by repeat constructor)) rfl rfl ?_
        refine .q (LD.assign rfl) rfl rfl ?_
        refine TL.nilS ?_
        refine TC.ret ?_
        repeat first | refine Post.sr ?_ | refine Post.br ?_
        have e : (⟨c, core, a, fl, bl⟩ : Cache).ask line kind = ((⟨c, core, a, fl, bl⟩ : Cache), Msg.none, 1) := by
              cases hq : inR line c.lines <;> simp_all [Cache.ask, Cache.can, Cache.look, Cache.find, place_find]
        exact Out.intro (X := [_]) (L' := [_, _, _, _]) (Res.c rfl (LV.aggL m0 (by repeat constructor) rfl) (Res.t rfl Res.z)) (by rw [e]; exact ⟨rfl, _, _, hF, hB, rfl⟩) (.refl _)
      · have h3 := g3
        try simp at h3
        refine TC.skipS ?_
        refine TC.seq ?_
        have hin : inR line c.lines = true := by cases hq : inR line c.lines <;> simp_all
        refine TC.region ?_
        refine .q (LD.move rfl) rfl rfl ?_
        refine .q (LD.nilCheck rfl) rfl rfl ?_
        refine .q (LD.fieldAddr rfl) rfl rfl ?_
        refine .q (LD.ld1 rfl m1 rfl) rfl rfl ?_
        refine .q (LD.move rfl) rfl rfl ?_
        refine TL.cr (CL.func rfl) (w_mGet c.mshrs fl pf rf hF hfl line) m3 (Wants.un rfl) rfl ?_
        rintro _ rfl
        refine .q (LD.move rfl) rfl rfl ?_
        refine .q (LD.ex rfl rfl) rfl rfl ?_
        refine .q (LD.ex rfl rfl) rfl rfl ?_
        refine TL.nb NB.alloc (Wants.un rfl) rfl (fun b12 => ?_)
        refine .e (EF.stA (i := 0) rfl rfl rfl rfl rfl rfl (by repeat constructor)) rfl rfl ?_
        refine .q (LD.assign rfl) rfl rfl ?_
        refine TL.nilS ?_
        refine TC.seq ?_
        refine TC.region ?_
        refine .q (LD.move rfl) rfl rfl ?_
        refine .q (LD.nilCheck rfl) rfl rfl ?_
        refine .q (LD.fieldAddr rfl) rfl rfl ?_
        refine .q (LD.ld1 rfl m2 rfl) rfl rfl ?_
        refine .q (LD.move rfl) rfl rfl ?_
        refine TL.cr (CL.func rfl) (w_bGet c.writebacks bl pb rb hB hbl line) m5 (Wants.un rfl) rfl ?_
        rintro _ rfl
        refine .q (LD.move rfl) rfl rfl ?_
        refine .q (LD.ex rfl rfl) rfl rfl ?_
        refine .q (LD.ex rfl rfl) rfl rfl ?_
        refine TL.nb NB.alloc (Wants.un rfl) rfl (fun b14 => ?_)
        refine .e (EF.stA (i := 0) rfl rfl rfl rfl rfl rfl (by repeat constructor)) rfl rfl ?_
        refine .q (LD.assign rfl) rfl rfl ?_
        refine TL.nilS ?_
        refine TC.seq ?_
        refine TC.region ?_
        refine .q (LD.move rfl) rfl rfl ?_
        refine .q (LD.move rfl) rfl rfl ?_
        refine TL.clX (X := [_, _, _]) (pre := [_, _]) (CL.func rfl) (w_Look c hc hok core a ha p pa ba pf pb hpab line hline) rfl (Wants.un rfl) rfl ?_
        rintro _ _ ⟨rfl, rfl⟩
        refine .q (LD.move rfl) rfl rfl ?_
        refine .q (LD.ex rfl rfl) rfl rfl ?_
        refine .q (LD.ex rfl rfl) rfl rfl ?_
        refine TL.nb NB.alloc (Wants.un rfl) rfl (fun b16 => ?_)
        refine .e (EF.stA (i := 0) rfl rfl rfl rfl rfl rfl (by repeat constructor)) rfl rfl ?_
        refine .q (LD.assign rfl) rfl rfl ?_
        refine TL.nilS ?_
        refine TC.seq ?_
        refine TC.region ?_
        refine .q (LD.move rfl) rfl rfl ?_
        refine .q (LD.nilCheck rfl) rfl rfl ?_
        refine .q (LD.fieldAddr rfl) rfl rfl ?_
        refine .q (LD.ld1 rfl m4 rfl) rfl rfl ?_
        refine .q (LD.move rfl) rfl rfl ?_
        refine TL.cr (CL.func rfl) (w_Free c hc hok a ha pa ba hpab line hline) m5 (Wants.un rfl) rfl ?_
        rintro _ rfl
        refine .q (LD.assign rfl) rfl rfl ?_
        refine TL.nilS ?_
        refine TC.seq ?_
        refine TC.block ?_
        refine TC.seq ?_
        refine TC.region ?_
        refine .q (LD.move rfl) rfl rfl ?_
        refine .q (LD.move rfl) rfl rfl ?_
        refine TL.split rfl rfl rfl rfl (fun g4 => ?_) (fun g4 => ?_)
        · have h4 := g4
          try simp at h4
          refine .y (LD.move rfl) g4 rfl rfl rfl rfl ?_
          refine .q (LD.pickF rfl g4 rfl) rfl rfl ?_
          refine .q (LD.move rfl) rfl rfl ?_
          refine TL.split rfl rfl rfl rfl (fun g5 => ?_) (fun g5 => ?_)
          · have h5 := g5
            try simp at h5
            refine .y (LD.move rfl) g5 rfl rfl rfl rfl ?_
            refine .y (LD.move rfl) g5 rfl rfl rfl rfl ?_
            refine .y (LD.move rfl) g5 rfl rfl rfl rfl ?_
            refine TL.clX (X := [_, _, _, _]) (pre := [_, _]) (CL.func rfl) (w_can c hc hok core a ha p pa ba pf pb hpab line kind hline) rfl (Wants.yes rfl rfl rfl g5) rfl ?_
            rintro _ _ ⟨rfl, rfl⟩
            refine .q (LD.pickF rfl g5 rfl) rfl rfl ?_
            refine .q (LD.assign rfl) rfl rfl ?_
            refine TL.nilS ?_
            refine TC.cond rfl (fun g6 => ?_) (fun g6 => ?_)
            · have h6 := g6
              try simp at h6
              refine TC.seq ?_
              refine TC.region ?_
              refine .q (LD.bS rfl rfl (by repeat constructor)) rfl rfl ?_
              refine .e (EF.stA (i := 3) rfl rfl rfl rfl rfl rfl (by repeat constructor)) rfl rfl ?_
              refine .q (LD.assign rfl) rfl rfl ?_
              refine TL.nilS ?_
              refine TC.ret ?_
              repeat first | refine Post.sr ?_ | refine Post.br ?_
              have e : (⟨c, core, a, fl, bl⟩ : Cache).ask line kind = ((⟨c, core, a, fl, bl⟩ : Cache), Msg.none, 6) := by
                    simp_all [Cache.ask, Cache.can, Cache.look, Cache.find, place_find]
              exact Out.intro (X := [_, _, _, _]) (L' := [_, _, _, _]) (Res.c rfl (LV.aggL m3 (by repeat constructor) rfl) (Res.t rfl Res.z)) (by rw [e]; exact ⟨rfl, _, _, hF, hB, rfl⟩) (.refl _)
            · have h6 := g6
              try simp at h6
              refine TC.seq ?_
              refine TC.draw0 [0, 0, 0, 0, 2, 0, 0, 0, 0, 0, 0, 0, 0] [0, 1, 2, 3, 6, 7, 8, 9, 10, 4, 5, 11, 12] TryzI.mixed (by decide +kernel) (by decide) ?_
              refine .q rfl rfl (LD.move rfl) rfl rfl ?_
              refine .q rfl rfl (LD.nilCheck rfl) rfl rfl ?_
              refine .q rfl rfl (LD.fieldAddr rfl) rfl rfl ?_
              refine .q rfl rfl (LD.ld1 rfl m4 rfl) rfl rfl ?_
              refine .q rfl rfl (LD.move rfl) rfl rfl ?_
              refine .q rfl rfl (LD.nilCheck rfl) rfl rfl ?_
              refine .q rfl rfl (LD.fieldAddr rfl) rfl rfl ?_
              refine .q rfl rfl (LD.fieldAddr rfl) rfl rfl ?_
              refine .q rfl rfl (LD.ld1 rfl m4 rfl) rfl rfl ?_
              refine TD.crn rfl rfl (CL.func rfl) (w_mList c.mshrs fl pf rf hF hfl) m6 (Wants.un rfl) rfl ?_
              intro v9 r9 hs9
              obtain ⟨q9, cap9, rfl, _⟩ := hs9.rd
              rw [List.length_map]
              refine .q rfl rfl (LD.lenS rfl rfl Tryz.underlying143) rfl rfl ?_
              refine .q rfl rfl (LD.eql rfl rfl) rfl rfl ?_
              refine .q rfl rfl (LD.assign rfl) rfl rfl ?_
              refine TD.nilT ?_
              refine TC.cond rfl (fun g7 => ?_) (fun g7 => ?_)
              · have h7 := g7
                try simp at h7
                refine TC.seq ?_
                refine TC.region ?_
                refine .q (LD.bS rfl rfl (by repeat constructor)) rfl rfl ?_
                refine .e (EF.stA (i := 4) rfl rfl rfl rfl rfl rfl (by repeat constructor)) rfl rfl ?_
                refine .q (LD.assign rfl) rfl rfl ?_
                refine TL.nilS ?_
                refine TC.ret ?_
                repeat first | refine Post.sr ?_ | refine Post.br ?_
                have e : (⟨c, core, a, fl, bl⟩ : Cache).ask line kind = ((⟨c, core, a, fl, bl⟩ : Cache), Msg.none, 4) := by
                      simp_all [Cache.ask, Cache.can, Cache.look, Cache.find, place_find]
                exact Out.intro (X := [_, _, _, _, _]) (L' := [_, _, _, _]) (Res.c rfl (LV.aggL m4 (by repeat constructor) rfl) (Res.t rfl Res.z)) (by rw [e]; exact ⟨rfl, _, _, hF, hB, rfl⟩) (.refl _)
              · have h7 := g7
                try simp at h7
                refine TC.seq ?_
                refine TC.region ?_
                refine .q (LD.move rfl) rfl rfl ?_
                refine .q (LD.assign rfl) rfl rfl ?_
                refine TL.nilS ?_
                refine TC.cond rfl (fun g8 => ?_) (fun g8 => ?_)
                · have h8 := g8
                  try simp at h8
                  refine TC.region ?_
                  refine .q (LD.move rfl) rfl rfl ?_
                  refine .q (LD.nilCheck rfl) rfl rfl ?_
                  refine .q (LD.fieldAddr rfl) rfl rfl ?_
                  refine .q (LD.ld1 rfl m5 rfl) rfl rfl ?_
                  refine .q (LD.move rfl) rfl rfl ?_
                  refine TL.cw (CL.func rfl) (w_Lock c hc hok a ha pa ba hpab line hline true) (i := 6) rfl (Wants.un rfl) rfl ?_
                  rintro _ _ ⟨rfl, rfl⟩
                  have hal : ((lockWay c a line true).length : Int) = c.sets * c.ways := by rw [lockWay_len]; exact ha
                  refine TL.nil ?_
                  refine TC.seq ?_
                  refine TC.region ?_
                  refine .q (LD.move rfl) rfl rfl ?_
                  refine .q (LD.nilCheck rfl) rfl rfl ?_
                  refine .q (LD.fieldAddr rfl) rfl rfl ?_
                  refine .q (LD.ld1 rfl m5 rfl) rfl rfl ?_
                  refine .q (LD.move rfl) rfl rfl ?_
                  refine .q (LD.move rfl) rfl rfl ?_
                  refine TL.cw (CL.func rfl) (w_mOpen c.mshrs fl pf rf hF hfl line kind) (i := 7) rfl (Wants.un rfl) rfl ?_
                  rintro _ rf2 ⟨rfl, hF2⟩
                  refine TL.nilS ?_
                  refine TC.seq ?_
                  refine TC.region ?_
                  refine .q (LD.move rfl) rfl rfl ?_
                  refine .q (LD.move rfl) rfl rfl ?_
                  refine .q (LD.move rfl) rfl rfl ?_
                  refine TL.clX (X := [_, _, _, _, _]) (pre := [_]) (CL.func rfl) (w_home c hc hok core p pa pf pb kind line hin hline) rfl (Wants.un rfl) rfl ?_
                  rintro _ _ ⟨rfl, rfl⟩
                  refine .e (EF.stA (i := 4) rfl rfl rfl rfl rfl rfl (by repeat constructor)) rfl rfl ?_
                  refine .q (LD.assign rfl) rfl rfl ?_
                  refine TL.nilS ?_
                  refine TC.ret ?_
                  repeat first | refine Post.sr ?_ | refine Post.br ?_
                  have e2 : missOpen c.mshrs fl line kind = (fl ++ [Miss.new line kind], 0) := by unfold missOpen; simp_all
                  rw [e2] at hF2
                  have e : (⟨c, core, a, fl, bl⟩ : Cache).ask line kind = (⟨c, core, lockWay c a line true, fl ++ [Miss.new line kind], bl⟩, (⟨c, core, a, fl, bl⟩ : Cache).home kind line, 0) := by
                        simp_all [Cache.ask, Cache.can, Cache.look, Cache.find, place_find]
                  exact Out.intro (X := [_, _, _, _, _]) (L' := [_, _, _, _]) (Res.c rfl (LV.aggL m4 (by repeat constructor) rfl) (Res.t rfl Res.z)) (by rw [e]; exact ⟨rfl, _, _, hF2, hB, rfl⟩) (.refl _)
                · have h8 := g8
                  try simp at h8
                  refine TC.seq ?_
                  refine TC.region ?_
                  refine .q (LD.move rfl) rfl rfl ?_
                  refine .q (LD.lss rfl rfl) rfl rfl ?_
                  refine .q (LD.assign rfl) rfl rfl ?_
                  refine TL.nilS ?_
                  refine TC.cond rfl (fun g9 => ?_) (fun g9 => ?_)
                  · have h9 := g9
                    try simp at h9
                    refine TC.seq ?_
                    refine TC.region ?_
                    refine .q (LD.bS rfl rfl (by repeat constructor)) rfl rfl ?_
                    refine .e (EF.stA (i := 4) rfl rfl rfl rfl rfl rfl (by repeat constructor)) rfl rfl ?_
                    refine .q (LD.assign rfl) rfl rfl ?_
                    refine TL.nilS ?_
                    refine TC.ret ?_
                    repeat first | refine Post.sr ?_ | refine Post.br ?_
                    have e : (⟨c, core, a, fl, bl⟩ : Cache).ask line kind = ((⟨c, core, a, fl, bl⟩ : Cache), Msg.none, 5) := by
                          have hfr : freeOf c a line = none := idx_none (by assumption)
                          simp_all [Cache.ask, Cache.can, Cache.look, Cache.find, place_find]
                    exact Out.intro (X := [_, _, _, _, _]) (L' := [_, _, _, _]) (Res.c rfl (LV.aggL m4 (by repeat constructor) rfl) (Res.t rfl Res.z)) (by rw [e]; exact ⟨rfl, _, _, hF, hB, rfl⟩) (.refl _)
                  · have h9 := g9
                    try simp at h9
                    have hpn : placeOf c a line = none := by have := place_find (c := c) (a := a) (line := line); simp_all
                    obtain ⟨w, hfr⟩ := idx_some (o := freeOf c a line) (by omega)
                    rw [hfr]
                    simp only [idxOf]
                    refine TC.region ?_
                    refine .q (LD.move rfl) rfl rfl ?_
                    refine .q (LD.nilCheck rfl) rfl rfl ?_
                    refine .q (LD.fieldAddr rfl) rfl rfl ?_
                    refine .q (LD.ld1 rfl m5 rfl) rfl rfl ?_
                    refine .q (LD.move rfl) rfl rfl ?_
                    refine .q (LD.move rfl) rfl rfl ?_
                    refine TL.cw (CL.func rfl) (w_Lay c hc hok a ha pa ba hpab line hline _) (i := 6) rfl (Wants.un rfl) rfl ?_
                    rintro _ _ ⟨rfl, rfl⟩
                    rw [layE_free hpn hfr, if_pos rfl, Int.toNat_natCast]
                    refine TL.nil ?_
                    refine TC.seq ?_
                    refine TC.region ?_
                    refine .q (LD.move rfl) rfl rfl ?_
                    refine .q (LD.nilCheck rfl) rfl rfl ?_
                    refine .q (LD.fieldAddr rfl) rfl rfl ?_
                    refine .q (LD.ld1 rfl m5 rfl) rfl rfl ?_
                    refine .q (LD.move rfl) rfl rfl ?_
                    refine .q (LD.move rfl) rfl rfl ?_
                    refine TL.cw (CL.func rfl) (w_mOpen c.mshrs fl pf rf hF hfl line kind) (i := 7) rfl (Wants.un rfl) rfl ?_
                    rintro _ rf2 ⟨rfl, hF2⟩
                    refine TL.nilS ?_
                    refine TC.seq ?_
                    refine TC.region ?_
                    refine .q (LD.move rfl) rfl rfl ?_
                    refine .q (LD.move rfl) rfl rfl ?_
                    refine .q (LD.move rfl) rfl rfl ?_
                    refine TL.clX (X := [_, _, _, _, _]) (pre := [_]) (CL.func rfl) (w_home c hc hok core p pa pf pb kind line hin hline) rfl (Wants.un rfl) rfl ?_
                    rintro _ _ ⟨rfl, rfl⟩
                    refine .e (EF.stA (i := 4) rfl rfl rfl rfl rfl rfl (by repeat constructor)) rfl rfl ?_
                    refine .q (LD.assign rfl) rfl rfl ?_
                    refine TL.nilS ?_
                    refine TC.ret ?_
                    repeat first | refine Post.sr ?_ | refine Post.br ?_
                    have e2 : missOpen c.mshrs fl line kind = (fl ++ [Miss.new line kind], 0) := by unfold missOpen; simp_all
                    rw [e2] at hF2
                    have e : (⟨c, core, a, fl, bl⟩ : Cache).ask line kind = (⟨c, core, layWay c a line w, fl ++ [Miss.new line kind], bl⟩, (⟨c, core, a, fl, bl⟩ : Cache).home kind line, 0) := by
                          simp_all [Cache.ask, Cache.can, Cache.look, Cache.find, place_find]
                    exact Out.intro (X := [_, _, _, _, _]) (L' := [_, _, _, _]) (Res.c rfl (LV.aggL m4 (by repeat constructor) rfl) (Res.t rfl Res.z)) (by rw [e]; exact ⟨rfl, _, _, hF2, hB, rfl⟩) (.refl _)
          · have h5 := g5
            try simp at h5
            refine .s g5 rfl rfl rfl rfl ?_
            refine .s g5 rfl rfl rfl rfl ?_
            refine .s g5 rfl rfl rfl rfl ?_
            refine .q (LD.pickT rfl g5 rfl) rfl rfl ?_
            refine .q (LD.assign rfl) rfl rfl ?_
            refine TL.nilS ?_
            refine TC.condT rfl rfl ?_
            refine TC.seq ?_
            refine TC.region ?_
            refine .q (LD.bS rfl rfl (by repeat constructor)) rfl rfl ?_
            refine .e (EF.stA (i := 3) rfl rfl rfl rfl rfl rfl (by repeat constructor)) rfl rfl ?_
            refine .q (LD.assign rfl) rfl rfl ?_
            refine TL.nilS ?_
            refine TC.ret ?_
            repeat first | refine Post.sr ?_ | refine Post.br ?_
            have e : (⟨c, core, a, fl, bl⟩ : Cache).ask line kind = ((⟨c, core, a, fl, bl⟩ : Cache), Msg.none, 6) := by
                  simp_all [Cache.ask, Cache.can, Cache.look, Cache.find, place_find]
            exact Out.intro (X := [_, _, _, _]) (L' := [_, _, _, _]) (Res.c rfl (LV.aggL m3 (by repeat constructor) rfl) (Res.t rfl Res.z)) (by rw [e]; exact ⟨rfl, _, _, hF, hB, rfl⟩) (.refl _)
        · have h4 := g4
          try simp at h4
          refine .q (LD.pickT rfl g4 rfl) rfl rfl ?_
          refine .q (LD.move rfl) rfl rfl ?_
          refine .s rfl rfl rfl rfl rfl ?_
          refine .s rfl rfl rfl rfl rfl ?_
          refine .s rfl rfl rfl rfl rfl ?_
          refine .s rfl rfl rfl rfl rfl ?_
          refine .q (LD.pickT rfl rfl rfl) rfl rfl ?_
          refine .q (LD.assign rfl) rfl rfl ?_
          refine TL.nilS ?_
          refine TC.condT rfl rfl ?_
          refine TC.seq ?_
          refine TC.region ?_
          refine .q (LD.bS rfl rfl (by repeat constructor)) rfl rfl ?_
          refine .e (EF.stA (i := 3) rfl rfl rfl rfl rfl rfl (by repeat constructor)) rfl rfl ?_
          refine .q (LD.assign rfl) rfl rfl ?_
          refine TL.nilS ?_
          refine TC.ret ?_
          repeat first | refine Post.sr ?_ | refine Post.br ?_
          have e : (⟨c, core, a, fl, bl⟩ : Cache).ask line kind = ((⟨c, core, a, fl, bl⟩ : Cache), Msg.none, 6) := by
                simp_all [Cache.ask, Cache.can, Cache.look, Cache.find, place_find]
          exact Out.intro (X := [_, _, _, _]) (L' := [_, _, _, _]) (Res.c rfl (LV.aggL m3 (by repeat constructor) rfl) (Res.t rfl Res.z)) (by rw [e]; exact ⟨rfl, _, _, hF, hB, rfl⟩) (.refl _)
    · have h2 := g2
      try simp at h2
      refine .s g2 rfl rfl rfl rfl ?_
      refine .y (LD.pickF rfl g2 rfl) g1 rfl rfl rfl rfl ?_
      refine .q (LD.pickF rfl g1 rfl) rfl rfl ?_
      refine TL.nilS ?_
      refine TC.condF rfl rfl ?_
      refine TC.skipS ?_
      refine TC.seq ?_
      have hin : inR line c.lines = true := by cases hq : inR line c.lines <;> simp_all
      refine TC.region ?_
      refine .q (LD.move rfl) rfl rfl ?_
      refine .q (LD.nilCheck rfl) rfl rfl ?_
      refine .q (LD.fieldAddr rfl) rfl rfl ?_
      refine .q (LD.ld1 rfl m1 rfl) rfl rfl ?_
      refine .q (LD.move rfl) rfl rfl ?_
      refine TL.cr (CL.func rfl) (w_mGet c.mshrs fl pf rf hF hfl line) m3 (Wants.un rfl) rfl ?_
      rintro _ rfl
      refine .q (LD.move rfl) rfl rfl ?_
      refine .q (LD.ex rfl rfl) rfl rfl ?_
      refine .q (LD.ex rfl rfl) rfl rfl ?_
      refine TL.nb NB.alloc (Wants.un rfl) rfl (fun b12 => ?_)
      refine .e (EF.stA (i := 0) rfl rfl rfl rfl rfl rfl (by repeat constructor)) rfl rfl ?_
      refine .q (LD.assign rfl) rfl rfl ?_
      refine TL.nilS ?_
      refine TC.seq ?_
      refine TC.region ?_
      refine .q (LD.move rfl) rfl rfl ?_
      refine .q (LD.nilCheck rfl) rfl rfl ?_
      refine .q (LD.fieldAddr rfl) rfl rfl ?_
      refine .q (LD.ld1 rfl m2 rfl) rfl rfl ?_
      refine .q (LD.move rfl) rfl rfl ?_
      refine TL.cr (CL.func rfl) (w_bGet c.writebacks bl pb rb hB hbl line) m5 (Wants.un rfl) rfl ?_
      rintro _ rfl
      refine .q (LD.move rfl) rfl rfl ?_
      refine .q (LD.ex rfl rfl) rfl rfl ?_
      refine .q (LD.ex rfl rfl) rfl rfl ?_
      refine TL.nb NB.alloc (Wants.un rfl) rfl (fun b14 => ?_)
      refine .e (EF.stA (i := 0) rfl rfl rfl rfl rfl rfl (by repeat constructor)) rfl rfl ?_
      refine .q (LD.assign rfl) rfl rfl ?_
      refine TL.nilS ?_
      refine TC.seq ?_
      refine TC.region ?_
      refine .q (LD.move rfl) rfl rfl ?_
      refine .q (LD.move rfl) rfl rfl ?_
      refine TL.clX (X := [_, _, _]) (pre := [_, _]) (CL.func rfl) (w_Look c hc hok core a ha p pa ba pf pb hpab line hline) rfl (Wants.un rfl) rfl ?_
      rintro _ _ ⟨rfl, rfl⟩
      refine .q (LD.move rfl) rfl rfl ?_
      refine .q (LD.ex rfl rfl) rfl rfl ?_
      refine .q (LD.ex rfl rfl) rfl rfl ?_
      refine TL.nb NB.alloc (Wants.un rfl) rfl (fun b16 => ?_)
      refine .e (EF.stA (i := 0) rfl rfl rfl rfl rfl rfl (by repeat constructor)) rfl rfl ?_
      refine .q (LD.assign rfl) rfl rfl ?_
      refine TL.nilS ?_
      refine TC.seq ?_
      refine TC.region ?_
      refine .q (LD.move rfl) rfl rfl ?_
      refine .q (LD.nilCheck rfl) rfl rfl ?_
      refine .q (LD.fieldAddr rfl) rfl rfl ?_
      refine .q (LD.ld1 rfl m4 rfl) rfl rfl ?_
      refine .q (LD.move rfl) rfl rfl ?_
      refine TL.cr (CL.func rfl) (w_Free c hc hok a ha pa ba hpab line hline) m5 (Wants.un rfl) rfl ?_
      rintro _ rfl
      refine .q (LD.assign rfl) rfl rfl ?_
      refine TL.nilS ?_
      refine TC.seq ?_
      refine TC.block ?_
      refine TC.seq ?_
      refine TC.region ?_
      refine .q (LD.move rfl) rfl rfl ?_
      refine .q (LD.move rfl) rfl rfl ?_
      refine TL.split rfl rfl rfl rfl (fun g10 => ?_) (fun g10 => ?_)
      · have h10 := g10
        try simp at h10
        refine .y (LD.move rfl) g10 rfl rfl rfl rfl ?_
        refine .q (LD.pickF rfl g10 rfl) rfl rfl ?_
        refine .q (LD.move rfl) rfl rfl ?_
        refine TL.split rfl rfl rfl rfl (fun g11 => ?_) (fun g11 => ?_)
        · have h11 := g11
          try simp at h11
          refine .y (LD.move rfl) g11 rfl rfl rfl rfl ?_
          refine .y (LD.move rfl) g11 rfl rfl rfl rfl ?_
          refine .y (LD.move rfl) g11 rfl rfl rfl rfl ?_
          refine TL.clX (X := [_, _, _, _]) (pre := [_, _]) (CL.func rfl) (w_can c hc hok core a ha p pa ba pf pb hpab line kind hline) rfl (Wants.yes rfl rfl rfl g11) rfl ?_
          rintro _ _ ⟨rfl, rfl⟩
          refine .q (LD.pickF rfl g11 rfl) rfl rfl ?_
          refine .q (LD.assign rfl) rfl rfl ?_
          refine TL.nilS ?_
          refine TC.cond rfl (fun g12 => ?_) (fun g12 => ?_)
          · have h12 := g12
            try simp at h12
            refine TC.seq ?_
            refine TC.region ?_
            refine .q (LD.bS rfl rfl (by repeat constructor)) rfl rfl ?_
            refine .e (EF.stA (i := 3) rfl rfl rfl rfl rfl rfl (by repeat constructor)) rfl rfl ?_
            refine .q (LD.assign rfl) rfl rfl ?_
            refine TL.nilS ?_
            refine TC.ret ?_
            repeat first | refine Post.sr ?_ | refine Post.br ?_
            have e : (⟨c, core, a, fl, bl⟩ : Cache).ask line kind = ((⟨c, core, a, fl, bl⟩ : Cache), Msg.none, 6) := by
                  simp_all [Cache.ask, Cache.can, Cache.look, Cache.find, place_find]
            exact Out.intro (X := [_, _, _, _]) (L' := [_, _, _, _]) (Res.c rfl (LV.aggL m3 (by repeat constructor) rfl) (Res.t rfl Res.z)) (by rw [e]; exact ⟨rfl, _, _, hF, hB, rfl⟩) (.refl _)
          · have h12 := g12
            try simp at h12
            refine TC.seq ?_
            refine TC.draw0 [0, 0, 0, 0, 2, 0, 0, 0, 0, 0, 0, 0, 0] [0, 1, 2, 3, 6, 7, 8, 9, 10, 4, 5, 11, 12] TryzI.mixed (by decide +kernel) (by decide) ?_
            refine .q rfl rfl (LD.move rfl) rfl rfl ?_
            refine .q rfl rfl (LD.nilCheck rfl) rfl rfl ?_
            refine .q rfl rfl (LD.fieldAddr rfl) rfl rfl ?_
            refine .q rfl rfl (LD.ld1 rfl m4 rfl) rfl rfl ?_
            refine .q rfl rfl (LD.move rfl) rfl rfl ?_
            refine .q rfl rfl (LD.nilCheck rfl) rfl rfl ?_
            refine .q rfl rfl (LD.fieldAddr rfl) rfl rfl ?_
            refine .q rfl rfl (LD.fieldAddr rfl) rfl rfl ?_
            refine .q rfl rfl (LD.ld1 rfl m4 rfl) rfl rfl ?_
            refine TD.crn rfl rfl (CL.func rfl) (w_mList c.mshrs fl pf rf hF hfl) m6 (Wants.un rfl) rfl ?_
            intro v9 r9 hs9
            obtain ⟨q9, cap9, rfl, _⟩ := hs9.rd
            rw [List.length_map]
            refine .q rfl rfl (LD.lenS rfl rfl Tryz.underlying143) rfl rfl ?_
            refine .q rfl rfl (LD.eql rfl rfl) rfl rfl ?_
            refine .q rfl rfl (LD.assign rfl) rfl rfl ?_
            refine TD.nilT ?_
            refine TC.cond rfl (fun g13 => ?_) (fun g13 => ?_)
            · have h13 := g13
              try simp at h13
              refine TC.seq ?_
              refine TC.region ?_
              refine .q (LD.bS rfl rfl (by repeat constructor)) rfl rfl ?_
              refine .e (EF.stA (i := 4) rfl rfl rfl rfl rfl rfl (by repeat constructor)) rfl rfl ?_
              refine .q (LD.assign rfl) rfl rfl ?_
              refine TL.nilS ?_
              refine TC.ret ?_
              repeat first | refine Post.sr ?_ | refine Post.br ?_
              have e : (⟨c, core, a, fl, bl⟩ : Cache).ask line kind = ((⟨c, core, a, fl, bl⟩ : Cache), Msg.none, 4) := by
                    simp_all [Cache.ask, Cache.can, Cache.look, Cache.find, place_find]
              exact Out.intro (X := [_, _, _, _, _]) (L' := [_, _, _, _]) (Res.c rfl (LV.aggL m4 (by repeat constructor) rfl) (Res.t rfl Res.z)) (by rw [e]; exact ⟨rfl, _, _, hF, hB, rfl⟩) (.refl _)
            · have h13 := g13
              try simp at h13
              refine TC.seq ?_
              refine TC.region ?_
              refine .q (LD.move rfl) rfl rfl ?_
              refine .q (LD.assign rfl) rfl rfl ?_
              refine TL.nilS ?_
              refine TC.cond rfl (fun g14 => ?_) (fun g14 => ?_)
              · have h14 := g14
                try simp at h14
                refine TC.region ?_
                refine .q (LD.move rfl) rfl rfl ?_
                refine .q (LD.nilCheck rfl) rfl rfl ?_
                refine .q (LD.fieldAddr rfl) rfl rfl ?_
                refine .q (LD.ld1 rfl m5 rfl) rfl rfl ?_
                refine .q (LD.move rfl) rfl rfl ?_
                refine TL.cw (CL.func rfl) (w_Lock c hc hok a ha pa ba hpab line hline true) (i := 6) rfl (Wants.un rfl) rfl ?_
                rintro _ _ ⟨rfl, rfl⟩
                have hal : ((lockWay c a line true).length : Int) = c.sets * c.ways := by rw [lockWay_len]; exact ha
                refine TL.nil ?_
                refine TC.seq ?_
                refine TC.region ?_
                refine .q (LD.move rfl) rfl rfl ?_
                refine .q (LD.nilCheck rfl) rfl rfl ?_
                refine .q (LD.fieldAddr rfl) rfl rfl ?_
                refine .q (LD.ld1 rfl m5 rfl) rfl rfl ?_
                refine .q (LD.move rfl) rfl rfl ?_
                refine .q (LD.move rfl) rfl rfl ?_
                refine TL.cw (CL.func rfl) (w_mOpen c.mshrs fl pf rf hF hfl line kind) (i := 7) rfl (Wants.un rfl) rfl ?_
                rintro _ rf2 ⟨rfl, hF2⟩
                refine TL.nilS ?_
                refine TC.seq ?_
                refine TC.region ?_
                refine .q (LD.move rfl) rfl rfl ?_
                refine .q (LD.move rfl) rfl rfl ?_
                refine .q (LD.move rfl) rfl rfl ?_
                refine TL.clX (X := [_, _, _, _, _]) (pre := [_]) (CL.func rfl) (w_home c hc hok core p pa pf pb kind line hin hline) rfl (Wants.un rfl) rfl ?_
                rintro _ _ ⟨rfl, rfl⟩
                refine .e (EF.stA (i := 4) rfl rfl rfl rfl rfl rfl (by repeat constructor)) rfl rfl ?_
                refine .q (LD.assign rfl) rfl rfl ?_
                refine TL.nilS ?_
                refine TC.ret ?_
                repeat first | refine Post.sr ?_ | refine Post.br ?_
                have e2 : missOpen c.mshrs fl line kind = (fl ++ [Miss.new line kind], 0) := by unfold missOpen; simp_all
                rw [e2] at hF2
                have e : (⟨c, core, a, fl, bl⟩ : Cache).ask line kind = (⟨c, core, lockWay c a line true, fl ++ [Miss.new line kind], bl⟩, (⟨c, core, a, fl, bl⟩ : Cache).home kind line, 0) := by
                      simp_all [Cache.ask, Cache.can, Cache.look, Cache.find, place_find]
                exact Out.intro (X := [_, _, _, _, _]) (L' := [_, _, _, _]) (Res.c rfl (LV.aggL m4 (by repeat constructor) rfl) (Res.t rfl Res.z)) (by rw [e]; exact ⟨rfl, _, _, hF2, hB, rfl⟩) (.refl _)
              · have h14 := g14
                try simp at h14
                refine TC.seq ?_
                refine TC.region ?_
                refine .q (LD.move rfl) rfl rfl ?_
                refine .q (LD.lss rfl rfl) rfl rfl ?_
                refine .q (LD.assign rfl) rfl rfl ?_
                refine TL.nilS ?_
                refine TC.cond rfl (fun g15 => ?_) (fun g15 => ?_)
                · have h15 := g15
                  try simp at h15
                  refine TC.seq ?_
                  refine TC.region ?_
                  refine .q (LD.bS rfl rfl (by repeat constructor)) rfl rfl ?_
                  refine .e (EF.stA (i := 4) rfl rfl rfl rfl rfl rfl (by repeat constructor)) rfl rfl ?_
                  refine .q (LD.assign rfl) rfl rfl ?_
                  refine TL.nilS ?_
                  refine TC.ret ?_
                  repeat first | refine Post.sr ?_ | refine Post.br ?_
                  have e : (⟨c, core, a, fl, bl⟩ : Cache).ask line kind = ((⟨c, core, a, fl, bl⟩ : Cache), Msg.none, 5) := by
                        have hfr : freeOf c a line = none := idx_none (by assumption)
                        simp_all [Cache.ask, Cache.can, Cache.look, Cache.find, place_find]
                  exact Out.intro (X := [_, _, _, _, _]) (L' := [_, _, _, _]) (Res.c rfl (LV.aggL m4 (by repeat constructor) rfl) (Res.t rfl Res.z)) (by rw [e]; exact ⟨rfl, _, _, hF, hB, rfl⟩) (.refl _)
                · have h15 := g15
                  try simp at h15
                  have hpn : placeOf c a line = none := by have := place_find (c := c) (a := a) (line := line); simp_all
                  obtain ⟨w, hfr⟩ := idx_some (o := freeOf c a line) (by omega)
                  rw [hfr]
                  simp only [idxOf]
                  refine TC.region ?_
                  refine .q (LD.move rfl) rfl rfl ?_
                  refine .q (LD.nilCheck rfl) rfl rfl ?_
                  refine .q (LD.fieldAddr rfl) rfl rfl ?_
                  refine .q (LD.ld1 rfl m5 rfl) rfl rfl ?_
                  refine .q (LD.move rfl) rfl rfl ?_
                  refine .q (LD.move rfl) rfl rfl ?_
                  refine TL.cw (CL.func rfl) (w_Lay c hc hok a ha pa ba hpab line hline _) (i := 6) rfl (Wants.un rfl) rfl ?_
                  rintro _ _ ⟨rfl, rfl⟩
                  rw [layE_free hpn hfr, if_pos rfl, Int.toNat_natCast]
                  refine TL.nil ?_
                  refine TC.seq ?_
                  refine TC.region ?_
                  refine .q (LD.move rfl) rfl rfl ?_
                  refine .q (LD.nilCheck rfl) rfl rfl ?_
                  refine .q (LD.fieldAddr rfl) rfl rfl ?_
                  refine .q (LD.ld1 rfl m5 rfl) rfl rfl ?_
                  refine .q (LD.move rfl) rfl rfl ?_
                  refine .q (LD.move rfl) rfl rfl ?_
                  refine TL.cw (CL.func rfl) (w_mOpen c.mshrs fl pf rf hF hfl line kind) (i := 7) rfl (Wants.un rfl) rfl ?_
                  rintro _ rf2 ⟨rfl, hF2⟩
                  refine TL.nilS ?_
                  refine TC.seq ?_
                  refine TC.region ?_
                  refine .q (LD.move rfl) rfl rfl ?_
                  refine .q (LD.move rfl) rfl rfl ?_
                  refine .q (LD.move rfl) rfl rfl ?_
                  refine TL.clX (X := [_, _, _, _, _]) (pre := [_]) (CL.func rfl) (w_home c hc hok core p pa pf pb kind line hin hline) rfl (Wants.un rfl) rfl ?_
                  rintro _ _ ⟨rfl, rfl⟩
                  refine .e (EF.stA (i := 4) rfl rfl rfl rfl rfl rfl (by repeat constructor)) rfl rfl ?_
                  refine .q (LD.assign rfl) rfl rfl ?_
                  refine TL.nilS ?_
                  refine TC.ret ?_
                  repeat first | refine Post.sr ?_ | refine Post.br ?_
                  have e2 : missOpen c.mshrs fl line kind = (fl ++ [Miss.new line kind], 0) := by unfold missOpen; simp_all
                  rw [e2] at hF2
                  have e : (⟨c, core, a, fl, bl⟩ : Cache).ask line kind = (⟨c, core, layWay c a line w, fl ++ [Miss.new line kind], bl⟩, (⟨c, core, a, fl, bl⟩ : Cache).home kind line, 0) := by
                        simp_all [Cache.ask, Cache.can, Cache.look, Cache.find, place_find]
                  exact Out.intro (X := [_, _, _, _, _]) (L' := [_, _, _, _]) (Res.c rfl (LV.aggL m4 (by repeat constructor) rfl) (Res.t rfl Res.z)) (by rw [e]; exact ⟨rfl, _, _, hF2, hB, rfl⟩) (.refl _)
        · have h11 := g11
          try simp at h11
          refine .s g11 rfl rfl rfl rfl ?_
          refine .s g11 rfl rfl rfl rfl ?_
          refine .s g11 rfl rfl rfl rfl ?_
          refine .q (LD.pickT rfl g11 rfl) rfl rfl ?_
          refine .q (LD.assign rfl) rfl rfl ?_
          refine TL.nilS ?_
          refine TC.condT rfl rfl ?_
          refine TC.seq ?_
          refine TC.region ?_
          refine .q (LD.bS rfl rfl (by repeat constructor)) rfl rfl ?_
          refine .e (EF.stA (i := 3) rfl rfl rfl rfl rfl rfl (by repeat constructor)) rfl rfl ?_
          refine .q (LD.assign rfl) rfl rfl ?_
          refine TL.nilS ?_
          refine TC.ret ?_
          repeat first | refine Post.sr ?_ | refine Post.br ?_
          have e : (⟨c, core, a, fl, bl⟩ : Cache).ask line kind = ((⟨c, core, a, fl, bl⟩ : Cache), Msg.none, 6) := by
                simp_all [Cache.ask, Cache.can, Cache.look, Cache.find, place_find]
          exact Out.intro (X := [_, _, _, _]) (L' := [_, _, _, _]) (Res.c rfl (LV.aggL m3 (by repeat constructor) rfl) (Res.t rfl Res.z)) (by rw [e]; exact ⟨rfl, _, _, hF, hB, rfl⟩) (.refl _)
      · have h10 := g10
        try simp at h10
        refine .q (LD.pickT rfl g10 rfl) rfl rfl ?_
        refine .q (LD.move rfl) rfl rfl ?_
        refine .s rfl rfl rfl rfl rfl ?_
        refine .s rfl rfl rfl rfl rfl ?_
        refine .s rfl rfl rfl rfl rfl ?_
        refine .s rfl rfl rfl rfl rfl ?_
        refine .q (LD.pickT rfl rfl rfl) rfl rfl ?_
        refine .q (LD.assign rfl) rfl rfl ?_
        refine TL.nilS ?_
        refine TC.condT rfl rfl ?_
        refine TC.seq ?_
        refine TC.region ?_
        refine .q (LD.bS rfl rfl (by repeat constructor)) rfl rfl ?_
        refine .e (EF.stA (i := 3) rfl rfl rfl rfl rfl rfl (by repeat constructor)) rfl rfl ?_
        refine .q (LD.assign rfl) rfl rfl ?_
        refine TL.nilS ?_
        refine TC.ret ?_
        repeat first | refine Post.sr ?_ | refine Post.br ?_
        have e : (⟨c, core, a, fl, bl⟩ : Cache).ask line kind = ((⟨c, core, a, fl, bl⟩ : Cache), Msg.none, 6) := by
              simp_all [Cache.ask, Cache.can, Cache.look, Cache.find, place_find]
        exact Out.intro (X := [_, _, _, _]) (L' := [_, _, _, _]) (Res.c rfl (LV.aggL m3 (by repeat constructor) rfl) (Res.t rfl Res.z)) (by rw [e]; exact ⟨rfl, _, _, hF, hB, rfl⟩) (.refl _)
  · have h1 := g1
    try simp at h1
    refine .s g1 rfl rfl rfl rfl ?_
    refine .s g1 rfl rfl rfl rfl ?_
    refine .un rfl rfl rfl rfl ?_
    refine .un rfl rfl rfl rfl ?_
    refine .s g1 rfl rfl rfl rfl ?_
    refine .q (LD.pickT rfl g1 rfl) rfl rfl ?_
    refine TL.nilS ?_
    refine TC.condT rfl rfl ?_
    refine TC.seq ?_
    refine TC.region ?_
    refine .q (LD.bS rfl rfl (by repeat constructor)) rfl rfl ?_
    refine .e (EF.stA (i := 0) rfl rfl rfl rfl rfl rfl (by repeat constructor)) rfl rfl ?_
    refine .q (LD.assign rfl) rfl rfl ?_
    refine TL.nilS ?_
    refine TC.ret ?_
    repeat first | refine Post.sr ?_ | refine Post.br ?_
    have e : (⟨c, core, a, fl, bl⟩ : Cache).ask line kind = ((⟨c, core, a, fl, bl⟩ : Cache), Msg.none, 1) := by
          cases hq : inR line c.lines <;> simp_all [Cache.ask, Cache.can, Cache.look, Cache.find, place_find]
    exact Out.intro (X := [_]) (L' := [_, _, _, _]) (Res.c rfl (LV.aggL m0 (by repeat constructor) rfl) (Res.t rfl Res.z)) (by rw [e]; exact ⟨rfl, _, _, hF, hB, rfl⟩) (.refl _)
end Go.SL.TryzI
