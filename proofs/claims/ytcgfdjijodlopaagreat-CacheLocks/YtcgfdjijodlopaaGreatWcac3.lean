/- A part of proofs about the given program. No condition. -/
import Derived.Test.YtcgfdjijodlopaaGreatWcac2
set_option linter.all false
namespace Go.SL.TryzI
open Go Go.Proofs Go.SL
set_option maxRecDepth 100000

open Mes in
theorem w_fwdS (c : Cfg) (hc : CfgR c) (hok : c.ok = true) (core : Int) (a : List Mes.Way) (ha : (a.length : Int) = c.sets * c.ways) (p pa ba pf pb : Nat) (hpab : pa ≠ ba) (fl : List Miss) (hfl : fl.length ≤ 100000) (bl : List WB) (hbl : bl.length ≤ 100000) (rf rb : Frag) (hF : IsFile c.mshrs fl pf rf) (hB : IsBuf c.writebacks bl pb rb) (m : Msg) (hline : R64 m.line) : Fn Tryz.prog 76 [.pointer (some ⟨p, 0, none⟩), .agg (encMsg m).toArray] [CacP p c core pa pf pb, ArrF pa ba c a, rf, rb] (CacPost c core p pa ba pf pb (ansV ((⟨c, core, a, fl, bl⟩ : Cache).tell m 1 3 false)) ((⟨c, core, a, fl, bl⟩ : Cache).tell m 1 3 false).1) := by
  refine Fn.body Tryz.func76 rfl rfl rfl (Nat.le_of_ble_eq_true rfl) fun F => ?_
  refine TC.seq ?_
  refine TC.region ?_
  refine TL.nb (NB.boxA rfl) (Wants.un rfl) rfl (fun b3 => ?_)
  refine TL.nb NB.alloc (Wants.un rfl) rfl (fun b4 => ?_)
  refine .q (LD.assign rfl) rfl rfl ?_
  refine TL.nilS ?_
  refine TC.seq ?_
  refine TC.drawW [0, 1, 0, 0, 0, 1, 0, 2, 0, 0, 2, 0] [0, 1, 2, 3, 4, 5, 6, 7, 8, 9, 10, 11] TryzI.mixed (by decide +kernel) (by decide) ?_
  refine .q rfl rfl (LD.move rfl) rfl rfl ?_
  refine .r rfl rfl (LD.ldA rfl m1 (by repeat constructor) rfl) rfl rfl ?_
  refine .q rfl rfl (LD.move rfl) rfl rfl ?_
  refine .q rfl rfl (LD.nilCheck rfl) rfl rfl ?_
  refine .q rfl rfl (LD.fieldAddr rfl) rfl rfl ?_
  refine .r rfl rfl (LD.ld1 rfl m2 rfl) rfl rfl ?_
  refine .q rfl rfl (LD.makeFunc rfl rfl) rfl rfl ?_
  refine TD.clX (X := [_, _]) (pre := [_, _, _, _]) rfl rfl (CL.func rfl) (w_tell c hc hok core a ha p pa ba pf pb hpab fl hfl bl hbl rf rb hF hB m hline 1 3 false bl (by simp) 156 (w_bShare c.writebacks bl pb rb hB hbl m.line)) rfl (Wants.un rfl) rfl ?_
  rintro _ _ ⟨rfl, rf2, rb2, hF2, hB2, rfl⟩
  refine .q rfl rfl (LD.ex rfl rfl) rfl rfl ?_
  refine .q rfl rfl (LD.ex rfl rfl) rfl rfl ?_
  refine TD.efT (j := 0) rfl rfl (EF.stA (i := 0) rfl rfl rfl rfl rfl rfl (by repeat constructor)) rfl (Wants.un rfl) rfl ?_
  refine .q rfl rfl (LD.assign rfl) rfl rfl ?_
  refine TD.nilC ?_
  refine TC.ret ?_
  repeat first | refine Post.sr ?_ | refine Post.br ?_
  exact Out.intro (X := [_, _]) (L' := [_, _, _, _]) (Res.c rfl (LV.aggL m0 (by repeat constructor) rfl) (Res.t rfl Res.z)) ⟨rfl, _, _, hF2, hB2, rfl⟩ (.refl _)
open Mes in
theorem w_fwdM (c : Cfg) (hc : CfgR c) (hok : c.ok = true) (core : Int) (a : List Mes.Way) (ha : (a.length : Int) = c.sets * c.ways) (p pa ba pf pb : Nat) (hpab : pa ≠ ba) (fl : List Miss) (hfl : fl.length ≤ 100000) (bl : List WB) (hbl : bl.length ≤ 100000) (rf rb : Frag) (hF : IsFile c.mshrs fl pf rf) (hB : IsBuf c.writebacks bl pb rb) (m : Msg) (hline : R64 m.line) : Fn Tryz.prog 77 [.pointer (some ⟨p, 0, none⟩), .agg (encMsg m).toArray] [CacP p c core pa pf pb, ArrF pa ba c a, rf, rb] (CacPost c core p pa ba pf pb (ansV ((⟨c, core, a, fl, bl⟩ : Cache).tell m 4 0 true)) ((⟨c, core, a, fl, bl⟩ : Cache).tell m 4 0 true).1) := by
  refine Fn.body Tryz.func77 rfl rfl rfl (Nat.le_of_ble_eq_true rfl) fun F => ?_
  refine TC.seq ?_
  refine TC.region ?_
  refine TL.nb (NB.boxA rfl) (Wants.un rfl) rfl (fun b3 => ?_)
  refine TL.nb NB.alloc (Wants.un rfl) rfl (fun b4 => ?_)
  refine .q (LD.assign rfl) rfl rfl ?_
  refine TL.nilS ?_
  refine TC.seq ?_
  refine TC.drawW [0, 1, 0, 0, 0, 1, 0, 2, 0, 0, 2, 0] [0, 1, 2, 3, 4, 5, 6, 7, 8, 9, 10, 11] TryzI.mixed (by decide +kernel) (by decide) ?_
  refine .q rfl rfl (LD.move rfl) rfl rfl ?_
  refine .r rfl rfl (LD.ldA rfl m1 (by repeat constructor) rfl) rfl rfl ?_
  refine .q rfl rfl (LD.move rfl) rfl rfl ?_
  refine .q rfl rfl (LD.nilCheck rfl) rfl rfl ?_
  refine .q rfl rfl (LD.fieldAddr rfl) rfl rfl ?_
  refine .r rfl rfl (LD.ld1 rfl m2 rfl) rfl rfl ?_
  refine .q rfl rfl (LD.makeFunc rfl rfl) rfl rfl ?_
  refine TD.clX (X := [_, _]) (pre := [_, _, _, _]) rfl rfl (CL.func rfl) (w_tell c hc hok core a ha p pa ba pf pb hpab fl hfl bl hbl rf rb hF hB m hline 4 0 true (if (Mes.wbShare bl m.line).2 = 0 then Mes.wbKill bl m.line else bl) (by simp) 157 (w_bGive c.writebacks bl pb rb hB hbl m.line)) rfl (Wants.un rfl) rfl ?_
  rintro _ _ ⟨rfl, rf2, rb2, hF2, hB2, rfl⟩
  refine .q rfl rfl (LD.ex rfl rfl) rfl rfl ?_
  refine .q rfl rfl (LD.ex rfl rfl) rfl rfl ?_
  refine TD.efT (j := 0) rfl rfl (EF.stA (i := 0) rfl rfl rfl rfl rfl rfl (by repeat constructor)) rfl (Wants.un rfl) rfl ?_
  refine .q rfl rfl (LD.assign rfl) rfl rfl ?_
  refine TD.nilC ?_
  refine TC.ret ?_
  repeat first | refine Post.sr ?_ | refine Post.br ?_
  exact Out.intro (X := [_, _]) (L' := [_, _, _, _]) (Res.c rfl (LV.aggL m0 (by repeat constructor) rfl) (Res.t rfl Res.z)) ⟨rfl, _, _, hF2, hB2, rfl⟩ (.refl _)
open Mes in
theorem w_inv (c : Cfg) (hc : CfgR c) (hok : c.ok = true) (core : Int) (a : List Mes.Way) (ha : (a.length : Int) = c.sets * c.ways) (p pa ba pf pb : Nat) (hpab : pa ≠ ba) (fl : List Miss) (hfl : fl.length ≤ 100000) (bl : List WB) (hbl : bl.length ≤ 100000) (rf rb : Frag) (hF : IsFile c.mshrs fl pf rf) (hB : IsBuf c.writebacks bl pb rb) (m : Msg) (hline : R64 m.line) : Fn Tryz.prog 78 [.pointer (some ⟨p, 0, none⟩), .agg (encMsg m).toArray] [CacP p c core pa pf pb, ArrF pa ba c a, rf, rb] (CacPost c core p pa ba pf pb (ansV ((⟨c, core, a, fl, bl⟩ : Cache).inv m)) ((⟨c, core, a, fl, bl⟩ : Cache).inv m).1) := by
  refine Fn.body Tryz.func78 rfl rfl rfl (Nat.le_of_ble_eq_true rfl) fun F => ?_
  refine TC.seq ?_
  refine TC.region ?_
  refine TL.nb (NB.boxA rfl) (Wants.un rfl) rfl (fun b3 => ?_)
  refine TL.nb NB.alloc (Wants.un rfl) rfl (fun b4 => ?_)
  refine .q (LD.assign rfl) rfl rfl ?_
  refine TL.nilS ?_
  refine TC.seq ?_
  refine TC.region ?_
  refine .q (LD.move rfl) rfl rfl ?_
  refine .q (LD.fieldAddr rfl) rfl rfl ?_
  refine .q (LD.ld1 rfl m1 rfl) rfl rfl ?_
  refine TL.clX (X := [_, _]) (pre := [_, _]) (CL.func rfl) (w_Look c hc hok core a ha p pa ba pf pb hpab m.line hline) rfl (Wants.un rfl) rfl ?_
  rintro _ _ ⟨rfl, rfl⟩
  refine .q (LD.move rfl) rfl rfl ?_
  refine .q (LD.ex rfl rfl) rfl rfl ?_
  refine .q (LD.ex rfl rfl) rfl rfl ?_
  refine TL.nb NB.alloc (Wants.un rfl) rfl (fun b6 => ?_)
  refine .e (EF.stA (i := 0) rfl rfl rfl rfl rfl rfl (by repeat constructor)) rfl rfl ?_
  refine .q (LD.assign rfl) rfl rfl ?_
  refine TL.nilS ?_
  refine TC.seq ?_
  refine TC.seq ?_
  refine TC.region ?_
  refine .q (LD.fieldAddr rfl) rfl rfl ?_
  refine .q (LD.ld1 rfl m0 rfl) rfl rfl ?_
  refine TL.cp (CL.func rfl) (w_owns _) (Wants.un rfl) rfl ?_
  rintro _ rfl
  refine TL.nilS ?_
  refine TC.cond rfl (fun g1 => ?_) (fun g1 => ?_)
  · have h1 := g1
    try simp at h1
    refine TC.seq ?_
    refine TC.region ?_
    refine .q (LD.bS rfl rfl (by repeat constructor)) rfl rfl ?_
    refine .e (EF.stA (i := 1) rfl rfl rfl rfl rfl rfl (by repeat constructor)) rfl rfl ?_
    refine .q (LD.assign rfl) rfl rfl ?_
    refine TL.nilS ?_
    refine TC.ret ?_
    repeat first | refine Post.sr ?_ | refine Post.br ?_
    have e : (⟨c, core, a, fl, bl⟩ : Cache).inv m = ((⟨c, core, a, fl, bl⟩ : Cache), Msg.none, false, 7) := (by unfold Cache.inv; simp_all [Cache.look, Cache.answer] <;> omega)
    exact Out.intro (X := [_, _, _]) (L' := [_, _, _, _]) (Res.c rfl (LV.aggL m1 (by repeat constructor) rfl) (Res.t rfl Res.z)) (by rw [e]; exact ⟨rfl, _, _, hF, hB, rfl⟩) (.refl _)
  · have h1 := g1
    try simp at h1
    refine TC.skipS ?_
    refine TC.seq ?_
    refine TC.seq ?_
    refine TC.region ?_
    refine .q (LD.fieldAddr rfl) rfl rfl ?_
    refine .q (LD.ld1 rfl m0 rfl) rfl rfl ?_
    refine .q (LD.eql rfl rfl) rfl rfl ?_
    refine TL.nilS ?_
    refine TC.cond rfl (fun g2 => ?_) (fun g2 => ?_)
    · have h2 := g2
      try simp at h2
      refine TC.drawX (R := [_, _, _, _]) [0, 0, 0, 0, 0, 0, 0, 2] [0, 1, 2, 3, 4, 5, 6, 7] TryzI.mixed (by decide +kernel) (no4 (by decide)) rfl ?_
      refine .q rfl rfl (LD.move rfl) rfl rfl ?_
      refine .q rfl rfl (LD.nilCheck rfl) rfl rfl ?_
      refine .q rfl rfl (LD.fieldAddr rfl) rfl rfl ?_
      refine .q rfl rfl (LD.ld1 rfl m3 rfl) rfl rfl ?_
      refine .q rfl rfl (LD.fieldAddr rfl) rfl rfl ?_
      refine .q rfl rfl (LD.ld1 rfl m2 rfl) rfl rfl ?_
      refine .q rfl rfl (LD.bA rfl rfl (by repeat constructor)) rfl rfl ?_
      refine TD.cwX rfl rfl (CL.func rfl) (w_Set c hc hok a ha pa ba hpab m.line hline 0 Words.zero) (j := 0) rfl (Wants.un rfl) rfl ?_
      rintro _ _ ⟨rfl, rfl⟩
      have hal : ((setWay c a m.line 0 Words.zero).length : Int) = c.sets * c.ways := by rw [setWay_len]; exact ha
      refine TD.nilX ?_
      refine TC.seq ?_
      refine TC.region ?_
      refine .q (LD.move rfl) rfl rfl ?_
      refine .q (LD.ldA rfl m2 (by repeat constructor) rfl) rfl rfl ?_
      refine TL.clX (X := [_, _, _]) (pre := [_]) (CL.func rfl) (w_to c core p pa pf pb m _) rfl (Wants.un rfl) rfl ?_
      rintro _ _ ⟨rfl, rfl⟩
      refine .q (LD.bS rfl rfl (by repeat constructor)) rfl rfl ?_
      refine .e (EF.stA (i := 1) rfl rfl rfl rfl rfl rfl (by repeat constructor)) rfl rfl ?_
      refine .q (LD.assign rfl) rfl rfl ?_
      refine TL.nilS ?_
      refine TC.ret ?_
      repeat first | refine Post.sr ?_ | refine Post.br ?_
      have e : (⟨c, core, a, fl, bl⟩ : Cache).inv m = (⟨c, core, setWay c a m.line 0 Words.zero, fl, bl⟩, ⟨9, m.line, core, m.who, 0, 0, 0, Words.zero⟩, true, 0) := (by unfold Cache.inv; simp_all [Cache.look, Cache.answer] <;> omega)
      exact Out.intro (X := [_, _, _]) (L' := [_, _, _, _]) (Res.c rfl (LV.aggL m1 (by repeat constructor) rfl) (Res.t rfl Res.z)) (by rw [e]; exact ⟨rfl, _, _, hF, hB, rfl⟩) (.refl _)
    · have h2 := g2
      try simp at h2
      refine TC.skipS ?_
      refine TC.seq ?_
      refine TC.region ?_
      refine .q (LD.move rfl) rfl rfl ?_
      refine .q (LD.ldA rfl m2 (by repeat constructor) rfl) rfl rfl ?_
      refine TL.clX (X := [_, _, _]) (pre := [_]) (CL.func rfl) (w_to c core p pa pf pb m _) rfl (Wants.un rfl) rfl ?_
      rintro _ _ ⟨rfl, rfl⟩
      refine .q (LD.bS rfl rfl (by repeat constructor)) rfl rfl ?_
      refine .e (EF.stA (i := 1) rfl rfl rfl rfl rfl rfl (by repeat constructor)) rfl rfl ?_
      refine .q (LD.assign rfl) rfl rfl ?_
      refine TL.nilS ?_
      refine TC.ret ?_
      repeat first | refine Post.sr ?_ | refine Post.br ?_
      have e : (⟨c, core, a, fl, bl⟩ : Cache).inv m = ((⟨c, core, a, fl, bl⟩ : Cache), ⟨9, m.line, core, m.who, 0, 0, 0, Words.zero⟩, true, 0) := (by unfold Cache.inv; simp_all [Cache.look, Cache.answer] <;> omega)
      exact Out.intro (X := [_, _, _]) (L' := [_, _, _, _]) (Res.c rfl (LV.aggL m1 (by repeat constructor) rfl) (Res.t rfl Res.z)) (by rw [e]; exact ⟨rfl, _, _, hF, hB, rfl⟩) (.refl _)

open Mes in
theorem oweV_eq (f : List Miss) (line : Int) : oweV f line = .tuple [.agg (encMiss ((missOwe f line).2.getD Miss.none)).toArray, .bool (missOwe f line).2.isSome].toArray := rfl
open Mes in
theorem missOwe_none {f : List Miss} {line : Int} (h : (missOwe f line).2.isSome = false) : missOwe f line = (f, none) := by
  unfold missOwe at h ⊢
  split
  · rfl
  · split
    · rfl
    · simp_all

open Mes in
theorem w_filled (c : Cfg) (hc : CfgR c) (hok : c.ok = true) (core : Int) (a : List Mes.Way) (ha : (a.length : Int) = c.sets * c.ways) (p pa ba pf pb : Nat) (hpab : pa ≠ ba) (fl : List Miss) (hfl : fl.length ≤ 100000) (bl : List WB) (hbl : bl.length ≤ 100000) (rf rb : Frag) (hF : IsFile c.mshrs fl pf rf) (hB : IsBuf c.writebacks bl pb rb) (line er : Int) (hline : R64 line) : Fn Tryz.prog 159 [.pointer (some ⟨p, 0, none⟩), i line, i er] [CacP p c core pa pf pb, ArrF pa ba c a, rf, rb] (CacPost c core p pa ba pf pb (ansV ((⟨c, core, a, fl, bl⟩ : Cache).filled line er)) ((⟨c, core, a, fl, bl⟩ : Cache).filled line er).1) := by
  refine Fn.body Tryz.func159 rfl rfl rfl (Nat.le_of_ble_eq_true rfl) fun F => ?_
  refine TC.seq ?_
  refine TC.region ?_
  refine TL.nb NB.alloc (Wants.un rfl) rfl (fun b6 => ?_)
  refine .q (LD.assign rfl) rfl rfl ?_
  refine TL.nilS ?_
  refine TC.seq ?_
  refine TC.seq ?_
  refine TC.region ?_
  refine .q (LD.move rfl) rfl rfl ?_
  refine .q (LD.neq rfl rfl) rfl rfl ?_
  refine TL.nilS ?_
  refine TC.cond rfl (fun g1 => ?_) (fun g1 => ?_)
  · have h1 := g1
    try simp at h1
    refine TC.seq ?_
    refine TC.region ?_
    refine .q (LD.bS rfl rfl (by repeat constructor)) rfl rfl ?_
    refine .e (EF.stA (i := 0) rfl rfl rfl rfl rfl rfl (by repeat constructor)) rfl rfl ?_
    refine .q (LD.assign rfl) rfl rfl ?_
    refine TL.nilS ?_
    refine TC.ret ?_
    repeat first | refine Post.sr ?_ | refine Post.br ?_
    have e : (⟨c, core, a, fl, bl⟩ : Cache).filled line er = ((⟨c, core, a, fl, bl⟩ : Cache), Msg.none, false, 7) := (by unfold Cache.filled; simp_all)
    exact Out.intro (X := [_]) (L' := [_, _, _, _]) (Res.c rfl (LV.aggL m0 (by repeat constructor) rfl) (Res.t rfl Res.z)) (by rw [e]; exact ⟨rfl, _, _, hF, hB, rfl⟩) (.refl _)
  · have h1 := g1
    try simp at h1
    refine TC.skipS ?_
    refine TC.seq ?_
    refine TC.region ?_
    refine .q (LD.move rfl) rfl rfl ?_
    refine .q (LD.nilCheck rfl) rfl rfl ?_
    refine .q (LD.fieldAddr rfl) rfl rfl ?_
    refine .q (LD.ld1 rfl m1 rfl) rfl rfl ?_
    refine .q (LD.move rfl) rfl rfl ?_
    refine TL.cw (CL.func rfl) (w_mOwe c.mshrs fl pf rf hF hfl line) (i := 3) rfl (Wants.un rfl) rfl ?_
    rintro _ rf2 ⟨rfl, hF2⟩
    rw [oweV_eq]
    refine .q (LD.move rfl) rfl rfl ?_
    refine .q (LD.ex rfl rfl) rfl rfl ?_
    refine .q (LD.ex rfl rfl) rfl rfl ?_
    refine TL.nb NB.alloc (Wants.un rfl) rfl (fun b8 => ?_)
    refine .e (EF.stA (i := 0) rfl rfl rfl rfl rfl rfl (by repeat constructor)) rfl rfl ?_
    refine .q (LD.assign rfl) rfl rfl ?_
    refine TL.nilS ?_
    refine TC.seq ?_
    refine TC.seq ?_
    refine TC.region ?_
    refine .q (LD.move rfl) rfl rfl ?_
    refine .q (LD.not rfl) rfl rfl ?_
    refine TL.nilS ?_
    refine TC.cond rfl (fun g2 => ?_) (fun g2 => ?_)
    · have h2 := g2
      try simp at h2
      refine TC.seq ?_
      refine TC.region ?_
      refine .q (LD.bS rfl rfl (by repeat constructor)) rfl rfl ?_
      refine .e (EF.stA (i := 1) rfl rfl rfl rfl rfl rfl (by repeat constructor)) rfl rfl ?_
      refine .q (LD.assign rfl) rfl rfl ?_
      refine TL.nilS ?_
      refine TC.ret ?_
      repeat first | refine Post.sr ?_ | refine Post.br ?_
      have hq : missOwe fl line = (fl, none) := missOwe_none (by simp_all)
      rw [hq] at hF2
      have e : (⟨c, core, a, fl, bl⟩ : Cache).filled line er = ((⟨c, core, a, fl, bl⟩ : Cache), Msg.none, false, 0) := (by unfold Cache.filled; simp_all)
      exact Out.intro (X := [_, _]) (L' := [_, _, _, _]) (Res.c rfl (LV.aggL m1 (by repeat constructor) rfl) (Res.t rfl Res.z)) (by rw [e]; exact ⟨rfl, _, _, hF2, hB, rfl⟩) (.refl _)
    · have h2 := g2
      try simp at h2
      refine TC.skipS ?_
      refine TC.seq ?_
      obtain ⟨μ, hmu⟩ : ∃ μ, (missOwe fl line).2 = some μ := by cases hq : (missOwe fl line).2 <;> simp_all
      rw [hmu]
      simp only [Option.getD_some]
      refine TC.region ?_
      refine .q (LD.fieldAddr rfl) rfl rfl ?_
      refine .q (LD.ldA rfl m0 (by repeat constructor) rfl) rfl rfl ?_
      refine TL.nb NB.alloc (Wants.un rfl) rfl (fun b10 => ?_)
      refine .e (EF.stA (i := 0) rfl rfl rfl rfl rfl rfl (by repeat constructor)) rfl rfl ?_
      refine TL.nilS ?_
      refine TC.seq ?_
      refine TC.seq ?_
      refine TC.region ?_
      refine .q (LD.fieldAddr rfl) rfl rfl ?_
      refine .q (LD.ld1 rfl m1 rfl) rfl rfl ?_
      refine TL.nilS ?_
      refine TC.cond rfl (fun g3 => ?_) (fun g3 => ?_)
      · have h3 := g3
        try simp at h3
        refine TC.seq ?_
        refine TC.region ?_
        refine .q (LD.move rfl) rfl rfl ?_
        refine .q (LD.move rfl) rfl rfl ?_
        refine TL.clX (X := [_, _, _]) (pre := [_, _]) (CL.func rfl) (w_Look c hc hok core a ha p pa ba pf pb hpab line hline) rfl (Wants.un rfl) rfl ?_
        rintro _ _ ⟨rfl, rfl⟩
        refine .q (LD.move rfl) rfl rfl ?_
        refine .q (LD.ex rfl rfl) rfl rfl ?_
        refine .q (LD.ex rfl rfl) rfl rfl ?_
        refine TL.nb NB.alloc (Wants.un rfl) rfl (fun b11 => ?_)
        refine .e (EF.stA (i := 0) rfl rfl rfl rfl rfl rfl (by repeat constructor)) rfl rfl ?_
        refine .q (LD.assign rfl) rfl rfl ?_
        refine TL.nilS ?_
        refine TC.region ?_
        refine .q (LD.fieldAddr rfl) rfl rfl ?_
        refine .q (LD.ldA rfl m0 (by repeat constructor) rfl) rfl rfl ?_
        refine .e (EF.stA (i := 1) rfl rfl rfl rfl rfl rfl (by repeat constructor)) rfl rfl ?_
        refine TL.nilS ?_
        refine TC.seq ?_
        refine TC.drawX (R := [_, _, _, _, _]) [0, 0, 0, 0, 0, 0, 0, 0, 2] [0, 1, 2, 3, 4, 5, 6, 7, 8] TryzI.mixed (by decide +kernel) (no4 (by decide)) rfl ?_
        refine .q rfl rfl (LD.move rfl) rfl rfl ?_
        refine .q rfl rfl (LD.nilCheck rfl) rfl rfl ?_
        refine .q rfl rfl (LD.fieldAddr rfl) rfl rfl ?_
        refine .q rfl rfl (LD.ld1 rfl m4 rfl) rfl rfl ?_
        refine .q rfl rfl (LD.move rfl) rfl rfl ?_
        refine .q rfl rfl (LD.fieldAddr rfl) rfl rfl ?_
        refine .q rfl rfl (LD.ld1 rfl m2 rfl) rfl rfl ?_
        refine .q rfl rfl (LD.ldA rfl m1 (by repeat constructor) rfl) rfl rfl ?_
        refine TD.cwX rfl rfl (CL.func rfl) (w_Set c hc hok a ha pa ba hpab line hline μ.own (lookWay c a line).words) (j := 0) rfl (Wants.un rfl) rfl ?_
        rintro _ _ ⟨rfl, rfl⟩
        have hal : ((setWay c a line μ.own (lookWay c a line).words).length : Int) = c.sets * c.ways := by rw [setWay_len]; exact ha
        refine TD.nilX ?_
        refine TC.seq ?_
        refine TC.region ?_
        refine .q (LD.bS rfl rfl (by repeat constructor)) rfl rfl ?_
        refine .e (EF.stA (i := 3) rfl rfl rfl rfl rfl rfl (by repeat constructor)) rfl rfl ?_
        refine .q (LD.assign rfl) rfl rfl ?_
        refine TL.nilS ?_
        refine TC.ret ?_
        repeat first | refine Post.sr ?_ | refine Post.br ?_
        have e : (⟨c, core, a, fl, bl⟩ : Cache).filled line er = (⟨c, core, setWay c a line μ.own (lookWay c a line).words, (missOwe fl line).1, bl⟩, Msg.none, false, 0) := (by unfold Cache.filled; rcases hqq : missOwe fl line with ⟨q1, q2⟩; rw [hqq] at hmu; simp only at hmu; subst hmu; simp_all [Cache.look])
        exact Out.intro (X := [_, _, _, _]) (L' := [_, _, _, _]) (Res.c rfl (LV.aggL m3 (by repeat constructor) rfl) (Res.t rfl Res.z)) (by rw [e]; exact ⟨rfl, _, _, hF2, hB, rfl⟩) (.refl _)
      · have h3 := g3
        try simp at h3
        refine TC.skipS ?_
        refine TC.seq ?_
        refine TC.drawX (R := [_, _, _, _]) [0, 0, 0, 0, 0, 0, 0, 0, 2] [0, 1, 2, 3, 4, 5, 6, 7, 8] TryzI.mixed (by decide +kernel) (no4 (by decide)) rfl ?_
        refine .q rfl rfl (LD.move rfl) rfl rfl ?_
        refine .q rfl rfl (LD.nilCheck rfl) rfl rfl ?_
        refine .q rfl rfl (LD.fieldAddr rfl) rfl rfl ?_
        refine .q rfl rfl (LD.ld1 rfl m3 rfl) rfl rfl ?_
        refine .q rfl rfl (LD.move rfl) rfl rfl ?_
        refine .q rfl rfl (LD.fieldAddr rfl) rfl rfl ?_
        refine .q rfl rfl (LD.ld1 rfl m1 rfl) rfl rfl ?_
        refine .q rfl rfl (LD.ldA rfl m0 (by repeat constructor) rfl) rfl rfl ?_
        refine TD.cwX rfl rfl (CL.func rfl) (w_Set c hc hok a ha pa ba hpab line hline μ.own μ.words) (j := 0) rfl (Wants.un rfl) rfl ?_
        rintro _ _ ⟨rfl, rfl⟩
        have hal : ((setWay c a line μ.own μ.words).length : Int) = c.sets * c.ways := by rw [setWay_len]; exact ha
        refine TD.nilX ?_
        refine TC.seq ?_
        refine TC.region ?_
        refine .q (LD.bS rfl rfl (by repeat constructor)) rfl rfl ?_
        refine .e (EF.stA (i := 2) rfl rfl rfl rfl rfl rfl (by repeat constructor)) rfl rfl ?_
        refine .q (LD.assign rfl) rfl rfl ?_
        refine TL.nilS ?_
        refine TC.ret ?_
        repeat first | refine Post.sr ?_ | refine Post.br ?_
        have e : (⟨c, core, a, fl, bl⟩ : Cache).filled line er = (⟨c, core, setWay c a line μ.own μ.words, (missOwe fl line).1, bl⟩, Msg.none, false, 0) := (by unfold Cache.filled; rcases hqq : missOwe fl line with ⟨q1, q2⟩; rw [hqq] at hmu; simp only at hmu; subst hmu; simp_all [Cache.look])
        exact Out.intro (X := [_, _, _]) (L' := [_, _, _, _]) (Res.c rfl (LV.aggL m2 (by repeat constructor) rfl) (Res.t rfl Res.z)) (by rw [e]; exact ⟨rfl, _, _, hF2, hB, rfl⟩) (.refl _)

open Mes in
theorem missAck_len (f : List Miss) (line : Int) : (missAck f line).1.length = f.length := by
  unfold missAck
  split
  · rfl
  · split
    · rfl
    · exact updMiss_length
open Mes in
theorem missGrant_len (f : List Miss) (line acks : Int) : (missGrant f line acks).1.length = f.length := by
  have h := missData_len f line acks 4 Words.zero
  unfold missGrant
  rcases hq : missData f line acks 4 Words.zero with ⟨f', e⟩
  rw [hq] at h
  simp only at h ⊢
  split
  · simp only [updMiss_length, h]
  · exact h

open Mes in
theorem w_data (c : Cfg) (hc : CfgR c) (hok : c.ok = true) (core : Int) (a : List Mes.Way) (ha : (a.length : Int) = c.sets * c.ways) (p pa ba pf pb : Nat) (hpab : pa ≠ ba) (fl : List Miss) (hfl : fl.length ≤ 100000) (bl : List WB) (hbl : bl.length ≤ 100000) (rf rb : Frag) (hF : IsFile c.mshrs fl pf rf) (hB : IsBuf c.writebacks bl pb rb) (m : Msg) (hline : R64 m.line) : Fn Tryz.prog 79 [.pointer (some ⟨p, 0, none⟩), .agg (encMsg m).toArray] [CacP p c core pa pf pb, ArrF pa ba c a, rf, rb] (CacPost c core p pa ba pf pb (ansV ((⟨c, core, a, (missData fl m.line m.acks m.own m.words).1, bl⟩ : Cache).filled m.line (missData fl m.line m.acks m.own m.words).2)) ((⟨c, core, a, (missData fl m.line m.acks m.own m.words).1, bl⟩ : Cache).filled m.line (missData fl m.line m.acks m.own m.words).2).1) := by
  refine Fn.body Tryz.func79 rfl rfl rfl (Nat.le_of_ble_eq_true rfl) fun F => ?_
  refine TC.seq ?_
  refine TC.region ?_
  refine TL.nb (NB.boxA rfl) (Wants.un rfl) rfl (fun b3 => ?_)
  refine TL.nb NB.alloc (Wants.un rfl) rfl (fun b4 => ?_)
  refine .q (LD.assign rfl) rfl rfl ?_
  refine TL.nilS ?_
  refine TC.seq ?_
  refine TC.perm (.swap ..) ?_
  refine TC.drawX (R := [_]) [0, 0, 0, 0, 0, 0, 1, 0, 0, 0, 0, 0, 0, 0, 0, 2, 2, 0, 0, 2, 0] [0, 1, 2, 3, 4, 5, 6, 7, 8, 9, 10, 11, 12, 13, 14, 15, 16, 17, 18, 19, 20] TryzI.mixed (by decide +kernel) (no4 (by decide)) rfl ?_
  refine .q rfl rfl (LD.move rfl) rfl rfl ?_
  refine .q rfl rfl (LD.fieldAddr rfl) rfl rfl ?_
  refine .q rfl rfl (LD.ld1 rfl m0 rfl) rfl rfl ?_
  refine .q rfl rfl (LD.move rfl) rfl rfl ?_
  refine .q rfl rfl (LD.nilCheck rfl) rfl rfl ?_
  refine .q rfl rfl (LD.fieldAddr rfl) rfl rfl ?_
  refine .rx rfl rfl (LD.ld1 rfl m2 rfl) rfl rfl ?_
  refine .q rfl rfl (LD.fieldAddr rfl) rfl rfl ?_
  refine .q rfl rfl (LD.ld1 rfl m0 rfl) rfl rfl ?_
  refine .q rfl rfl (LD.fieldAddr rfl) rfl rfl ?_
  refine .q rfl rfl (LD.ld1 rfl m0 rfl) rfl rfl ?_
  refine .q rfl rfl (LD.fieldAddr rfl) rfl rfl ?_
  refine .q rfl rfl (LD.ld1 rfl m0 rfl) rfl rfl ?_
  refine .q rfl rfl (LD.fieldAddr rfl) rfl rfl ?_
  refine .q rfl rfl (LD.ldA rfl m0 (by repeat constructor) rfl) rfl rfl ?_
  refine TD.cwX rfl rfl (CL.func rfl) (w_mData c.mshrs fl pf rf hF hfl m.line m.acks m.own m.words) (j := 3) rfl (Wants.un rfl) rfl ?_
  rintro _ rf2 ⟨rfl, hF2⟩
  refine TD.clXT (X := [_]) (pre := [_, _, _, _]) rfl rfl (CL.func rfl) (w_filled c hc hok core a ha p pa ba pf pb hpab (missData fl m.line m.acks m.own m.words).1 (by rw [missData_len]; exact hfl) bl hbl _ rb hF2 hB m.line (missData fl m.line m.acks m.own m.words).2 hline) rfl (Wants.un rfl) rfl ?_
  rintro _ _ ⟨rfl, rf3, rb3, hF3, hB3, rfl⟩
  refine .q rfl rfl (LD.ex rfl rfl) rfl rfl ?_
  refine .q rfl rfl (LD.ex rfl rfl) rfl rfl ?_
  refine TD.efT (j := 0) rfl rfl (EF.stA (i := 0) rfl rfl rfl rfl rfl rfl (by repeat constructor)) rfl (Wants.un rfl) rfl ?_
  refine .q rfl rfl (LD.assign rfl) rfl rfl ?_
  refine TD.nilX ?_
  refine TC.ret ?_
  repeat first | refine Post.sr ?_ | refine Post.br ?_
  exact Out.intro (X := [_, _]) (L' := [_, _, _, _]) (Res.c rfl (LV.aggL m1 (by repeat constructor) rfl) (Res.t rfl Res.z)) ⟨rfl, _, _, hF3, hB3, rfl⟩ (.refl _)
open Mes in
theorem w_ack (c : Cfg) (hc : CfgR c) (hok : c.ok = true) (core : Int) (a : List Mes.Way) (ha : (a.length : Int) = c.sets * c.ways) (p pa ba pf pb : Nat) (hpab : pa ≠ ba) (fl : List Miss) (hfl : fl.length ≤ 100000) (bl : List WB) (hbl : bl.length ≤ 100000) (rf rb : Frag) (hF : IsFile c.mshrs fl pf rf) (hB : IsBuf c.writebacks bl pb rb) (m : Msg) (hline : R64 m.line) (hgot : ∀ x, missOf fl m.line = some x → -1000000000 ≤ x.got ∧ x.got ≤ 1000000000) : Fn Tryz.prog 81 [.pointer (some ⟨p, 0, none⟩), .agg (encMsg m).toArray] [CacP p c core pa pf pb, ArrF pa ba c a, rf, rb] (CacPost c core p pa ba pf pb (ansV ((⟨c, core, a, (missAck fl m.line).1, bl⟩ : Cache).filled m.line (missAck fl m.line).2)) ((⟨c, core, a, (missAck fl m.line).1, bl⟩ : Cache).filled m.line (missAck fl m.line).2).1) := by
  refine Fn.body Tryz.func81 rfl rfl rfl (Nat.le_of_ble_eq_true rfl) fun F => ?_
  refine TC.seq ?_
  refine TC.region ?_
  refine TL.nb (NB.boxA rfl) (Wants.un rfl) rfl (fun b3 => ?_)
  refine TL.nb NB.alloc (Wants.un rfl) rfl (fun b4 => ?_)
  refine .q (LD.assign rfl) rfl rfl ?_
  refine TL.nilS ?_
  refine TC.seq ?_
  refine TC.perm (.swap ..) ?_
  refine TC.drawX (R := [_]) [0, 0, 0, 0, 0, 0, 1, 0, 0, 2, 2, 0, 0, 2, 0] [0, 1, 2, 3, 4, 5, 6, 7, 8, 9, 10, 11, 12, 13, 14] TryzI.mixed (by decide +kernel) (no4 (by decide)) rfl ?_
  refine .q rfl rfl (LD.move rfl) rfl rfl ?_
  refine .q rfl rfl (LD.fieldAddr rfl) rfl rfl ?_
  refine .q rfl rfl (LD.ld1 rfl m0 rfl) rfl rfl ?_
  refine .q rfl rfl (LD.move rfl) rfl rfl ?_
  refine .q rfl rfl (LD.nilCheck rfl) rfl rfl ?_
  refine .q rfl rfl (LD.fieldAddr rfl) rfl rfl ?_
  refine .rx rfl rfl (LD.ld1 rfl m2 rfl) rfl rfl ?_
  refine .q rfl rfl (LD.fieldAddr rfl) rfl rfl ?_
  refine .q rfl rfl (LD.ld1 rfl m0 rfl) rfl rfl ?_
  refine TD.cwX rfl rfl (CL.func rfl) (w_mAck c.mshrs fl pf rf hF hfl m.line hgot) (j := 3) rfl (Wants.un rfl) rfl ?_
  rintro _ rf2 ⟨rfl, hF2⟩
  refine TD.clXT (X := [_]) (pre := [_, _, _, _]) rfl rfl (CL.func rfl) (w_filled c hc hok core a ha p pa ba pf pb hpab (missAck fl m.line).1 (by rw [missAck_len]; exact hfl) bl hbl _ rb hF2 hB m.line (missAck fl m.line).2 hline) rfl (Wants.un rfl) rfl ?_
  rintro _ _ ⟨rfl, rf3, rb3, hF3, hB3, rfl⟩
  refine .q rfl rfl (LD.ex rfl rfl) rfl rfl ?_
  refine .q rfl rfl (LD.ex rfl rfl) rfl rfl ?_
  refine TD.efT (j := 0) rfl rfl (EF.stA (i := 0) rfl rfl rfl rfl rfl rfl (by repeat constructor)) rfl (Wants.un rfl) rfl ?_
  refine .q rfl rfl (LD.assign rfl) rfl rfl ?_
  refine TD.nilX ?_
  refine TC.ret ?_
  repeat first | refine Post.sr ?_ | refine Post.br ?_
  exact Out.intro (X := [_, _]) (L' := [_, _, _, _]) (Res.c rfl (LV.aggL m1 (by repeat constructor) rfl) (Res.t rfl Res.z)) ⟨rfl, _, _, hF3, hB3, rfl⟩ (.refl _)
open Mes in
theorem w_grant (c : Cfg) (hc : CfgR c) (hok : c.ok = true) (core : Int) (a : List Mes.Way) (ha : (a.length : Int) = c.sets * c.ways) (p pa ba pf pb : Nat) (hpab : pa ≠ ba) (fl : List Miss) (hfl : fl.length ≤ 100000) (bl : List WB) (hbl : bl.length ≤ 100000) (rf rb : Frag) (hF : IsFile c.mshrs fl pf rf) (hB : IsBuf c.writebacks bl pb rb) (m : Msg) (hline : R64 m.line) : Fn Tryz.prog 80 [.pointer (some ⟨p, 0, none⟩), .agg (encMsg m).toArray] [CacP p c core pa pf pb, ArrF pa ba c a, rf, rb] (CacPost c core p pa ba pf pb (ansV (if (lookWay c a m.line).state ≠ 3 then ((⟨c, core, a, fl, bl⟩ : Cache), Msg.none, false, 7) else (⟨c, core, a, (missGrant fl m.line m.acks).1, bl⟩ : Cache).filled m.line (missGrant fl m.line m.acks).2)) (if (lookWay c a m.line).state ≠ 3 then ((⟨c, core, a, fl, bl⟩ : Cache), Msg.none, false, 7) else (⟨c, core, a, (missGrant fl m.line m.acks).1, bl⟩ : Cache).filled m.line (missGrant fl m.line m.acks).2).1) := by
  refine Fn.body Tryz.func80 rfl rfl rfl (Nat.le_of_ble_eq_true rfl) fun F => ?_
  refine TC.seq ?_
  refine TC.region ?_
  refine TL.nb (NB.boxA rfl) (Wants.un rfl) rfl (fun b3 => ?_)
  refine TL.nb NB.alloc (Wants.un rfl) rfl (fun b4 => ?_)
  refine .q (LD.assign rfl) rfl rfl ?_
  refine TL.nilS ?_
  refine TC.seq ?_
  refine TC.seq ?_
  refine TC.region ?_
  refine .q (LD.move rfl) rfl rfl ?_
  refine .q (LD.fieldAddr rfl) rfl rfl ?_
  refine .q (LD.ld1 rfl m1 rfl) rfl rfl ?_
  refine TL.clX (X := [_, _]) (pre := [_, _]) (CL.func rfl) (w_Look c hc hok core a ha p pa ba pf pb hpab m.line hline) rfl (Wants.un rfl) rfl ?_
  rintro _ _ ⟨rfl, rfl⟩
  refine .q (LD.move rfl) rfl rfl ?_
  refine .q (LD.ex rfl rfl) rfl rfl ?_
  refine .q (LD.ex rfl rfl) rfl rfl ?_
  refine TL.nb NB.alloc (Wants.un rfl) rfl (fun b6 => ?_)
  refine .e (EF.stA (i := 0) rfl rfl rfl rfl rfl rfl (by repeat constructor)) rfl rfl ?_
  refine .q (LD.assign rfl) rfl rfl ?_
  refine TL.nilS ?_
  refine TC.seq ?_
  refine TC.region ?_
  refine .q (LD.fieldAddr rfl) rfl rfl ?_
  refine .q (LD.ld1 rfl m0 rfl) rfl rfl ?_
  refine .q (LD.neq rfl rfl) rfl rfl ?_
  refine TL.nilS ?_
  refine TC.cond rfl (fun g1 => ?_) (fun g1 => ?_)
  · have h1 := g1
    try simp at h1
    refine TC.seq ?_
    refine TC.region ?_
    refine .q (LD.bS rfl rfl (by repeat constructor)) rfl rfl ?_
    refine .e (EF.stA (i := 1) rfl rfl rfl rfl rfl rfl (by repeat constructor)) rfl rfl ?_
    refine .q (LD.assign rfl) rfl rfl ?_
    refine TL.nilS ?_
    refine TC.ret ?_
    repeat first | refine Post.sr ?_ | refine Post.br ?_
    exact Out.intro (X := [_, _, _]) (L' := [_, _, _, _]) (Res.c rfl (LV.aggL m1 (by repeat constructor) rfl) (Res.t rfl Res.z)) (by rw [if_pos (by assumption)]; exact ⟨rfl, _, _, hF, hB, rfl⟩) (.refl _)
  · have h1 := g1
    try simp at h1
    refine TC.skipS ?_
    refine TC.seq ?_
    refine TC.perm (List.perm_middle (l₁ := [_, _]) (a := blk b3 _ _)) ?_
    refine TC.drawX (R := [_]) [0, 0, 0, 0, 0, 0, 1, 0, 0, 0, 0, 2, 2, 0, 0, 2, 0] [0, 1, 2, 3, 4, 5, 6, 7, 8, 9, 10, 11, 12, 13, 14, 15, 16] TryzI.mixed (by decide +kernel) (no4 (by decide)) rfl ?_
    refine .q rfl rfl (LD.move rfl) rfl rfl ?_
    refine .q rfl rfl (LD.fieldAddr rfl) rfl rfl ?_
    refine .q rfl rfl (LD.ld1 rfl m0 rfl) rfl rfl ?_
    refine .q rfl rfl (LD.move rfl) rfl rfl ?_
    refine .q rfl rfl (LD.nilCheck rfl) rfl rfl ?_
    refine .q rfl rfl (LD.fieldAddr rfl) rfl rfl ?_
    refine .rx rfl rfl (LD.ld1 rfl m3 rfl) rfl rfl ?_
    refine .q rfl rfl (LD.fieldAddr rfl) rfl rfl ?_
    refine .q rfl rfl (LD.ld1 rfl m0 rfl) rfl rfl ?_
    refine .q rfl rfl (LD.fieldAddr rfl) rfl rfl ?_
    refine .q rfl rfl (LD.ld1 rfl m0 rfl) rfl rfl ?_
    refine TD.cwX rfl rfl (CL.func rfl) (w_mGrant c.mshrs fl pf rf hF hfl m.line m.acks) (j := 4) rfl (Wants.un rfl) rfl ?_
    rintro _ rf2 ⟨rfl, hF2⟩
    refine TD.clXT (X := [_, _]) (pre := [_, _, _, _]) rfl rfl (CL.func rfl) (w_filled c hc hok core a ha p pa ba pf pb hpab (missGrant fl m.line m.acks).1 (by rw [missGrant_len]; exact hfl) bl hbl _ rb hF2 hB m.line (missGrant fl m.line m.acks).2 hline) rfl (Wants.un rfl) rfl ?_
    rintro _ _ ⟨rfl, rf3, rb3, hF3, hB3, rfl⟩
    refine .q rfl rfl (LD.ex rfl rfl) rfl rfl ?_
    refine .q rfl rfl (LD.ex rfl rfl) rfl rfl ?_
    refine TD.efT (j := 1) rfl rfl (EF.stA (i := 0) rfl rfl rfl rfl rfl rfl (by repeat constructor)) rfl (Wants.un rfl) rfl ?_
    refine .q rfl rfl (LD.assign rfl) rfl rfl ?_
    refine TD.nilX ?_
    refine TC.ret ?_
    repeat first | refine Post.sr ?_ | refine Post.br ?_
    exact Out.intro (X := [_, _, _]) (L' := [_, _, _, _]) (Res.c rfl (LV.aggL m2 (by repeat constructor) rfl) (Res.t rfl Res.z)) (by rw [if_neg (by omega)]; exact ⟨rfl, _, _, hF3, hB3, rfl⟩) (.refl _)

open Mes in
def paR (k : Cache) (m : Msg) : Cache × Msg × Bool × Int := match wbDrop k.b m.line with | (b, e) => if e ≠ 0 then (k, Msg.none, false, 7) else ({ k with b := b }, Msg.none, false, 0)


open Mes in
theorem wbDrop_err {b : List WB} {line : Int} (h : ¬ (wbDrop b line).2 = 0) : wbDrop b line = (b, (wbDrop b line).2) := by
  unfold wbDrop at h ⊢
  split
  · rfl
  · simp_all

open Mes in
theorem w_putAck (c : Cfg) (hc : CfgR c) (hok : c.ok = true) (core : Int) (a : List Mes.Way) (ha : (a.length : Int) = c.sets * c.ways) (p pa ba pf pb : Nat) (hpab : pa ≠ ba) (fl : List Miss) (hfl : fl.length ≤ 100000) (bl : List WB) (hbl : bl.length ≤ 100000) (rf rb : Frag) (hF : IsFile c.mshrs fl pf rf) (hB : IsBuf c.writebacks bl pb rb) (m : Msg) (hline : R64 m.line) : Fn Tryz.prog 75 [.pointer (some ⟨p, 0, none⟩), .agg (encMsg m).toArray] [CacP p c core pa pf pb, ArrF pa ba c a, rf, rb] (CacPost c core p pa ba pf pb (ansV (paR (⟨c, core, a, fl, bl⟩ : Cache) m)) (paR (⟨c, core, a, fl, bl⟩ : Cache) m).1) := by
  refine Fn.body Tryz.func75 rfl rfl rfl (Nat.le_of_ble_eq_true rfl) fun F => ?_
  refine TC.seq ?_
  refine TC.region ?_
  refine TL.nb (NB.boxA rfl) (Wants.un rfl) rfl (fun b3 => ?_)
  refine TL.nb NB.alloc (Wants.un rfl) rfl (fun b4 => ?_)
  refine .q (LD.assign rfl) rfl rfl ?_
  refine TL.nilS ?_
  refine TC.seq ?_
  refine TC.seq ?_
  refine TC.drawW [0, 0, 0, 1, 0, 1, 2, 0] [0, 1, 2, 3, 4, 5, 6, 7] TryzI.mixed (by decide +kernel) (by decide) ?_
  refine .q rfl rfl (LD.move rfl) rfl rfl ?_
  refine .q rfl rfl (LD.nilCheck rfl) rfl rfl ?_
  refine .q rfl rfl (LD.fieldAddr rfl) rfl rfl ?_
  refine .r rfl rfl (LD.ld1 rfl m2 rfl) rfl rfl ?_
  refine .q rfl rfl (LD.fieldAddr rfl) rfl rfl ?_
  refine .r rfl rfl (LD.ld1 rfl m1 rfl) rfl rfl ?_
  refine TD.cwX rfl rfl (CL.func rfl) (w_bDrop c.writebacks bl pb rb hB hbl m.line) (j := 5) rfl (Wants.un rfl) rfl ?_
  rintro _ rb2 ⟨rfl, hB2⟩
  refine .q rfl rfl (LD.neq rfl rfl) rfl rfl ?_
  refine TD.nilC ?_
  refine TC.cond rfl (fun g1 => ?_) (fun g1 => ?_)
  · have h1 := g1
    try simp at h1
    refine TC.seq ?_
    refine TC.region ?_
    refine .q (LD.bS rfl rfl (by repeat constructor)) rfl rfl ?_
    refine .e (EF.stA (i := 0) rfl rfl rfl rfl rfl rfl (by repeat constructor)) rfl rfl ?_
    refine .q (LD.assign rfl) rfl rfl ?_
    refine TL.nilS ?_
    refine TC.ret ?_
    repeat first | refine Post.sr ?_ | refine Post.br ?_
    have hq : wbDrop bl m.line = (bl, (wbDrop bl m.line).2) := wbDrop_err (by assumption)
    have hne : ¬ (wbDrop bl m.line).2 = 0 := by assumption
    rw [hq] at hB2
    obtain ⟨ee, hee⟩ : ∃ ee, ee = (wbDrop bl m.line).2 := ⟨_, rfl⟩
    rw [← hee] at hq hne
    exact Out.intro (X := [_, _]) (L' := [_, _, _, _]) (Res.c rfl (LV.aggL m0 (by repeat constructor) rfl) (Res.t rfl Res.z)) (by rw [show paR (⟨c, core, a, fl, bl⟩ : Cache) m = ((⟨c, core, a, fl, bl⟩ : Cache), Msg.none, false, 7) from by unfold paR; simp only [hq, ne_eq, hne, not_false_eq_true, if_true]]; exact ⟨rfl, _, _, hF, hB2, rfl⟩) (.refl _)
  · have h1 := g1
    try simp at h1
    refine TC.skipS ?_
    refine TC.seq ?_
    refine TC.region ?_
    refine .q (LD.bS rfl rfl (by repeat constructor)) rfl rfl ?_
    refine .e (EF.stA (i := 0) rfl rfl rfl rfl rfl rfl (by repeat constructor)) rfl rfl ?_
    refine .q (LD.assign rfl) rfl rfl ?_
    refine TL.nilS ?_
    refine TC.ret ?_
    repeat first | refine Post.sr ?_ | refine Post.br ?_
    obtain ⟨q1, q2⟩ : ∃ b, wbDrop bl m.line = (b, 0) := ⟨_, Prod.ext rfl (by assumption)⟩
    rw [q2] at hB2
    exact Out.intro (X := [_, _]) (L' := [_, _, _, _]) (Res.c rfl (LV.aggL m0 (by repeat constructor) rfl) (Res.t rfl Res.z)) (by rw [show paR (⟨c, core, a, fl, bl⟩ : Cache) m = (⟨c, core, a, fl, q1⟩, Msg.none, false, 0) from by unfold paR; simp only [q2]; rfl]; exact ⟨rfl, _, _, hF, hB2, rfl⟩) (.refl _)
end Go.SL.TryzI
