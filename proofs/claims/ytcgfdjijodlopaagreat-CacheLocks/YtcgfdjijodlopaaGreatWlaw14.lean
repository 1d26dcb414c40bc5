/- A part of proofs about the given program. No condition. -/
import Derived.Test.YtcgfdjijodlopaaGreatWcac4
import Derived.Test.YtcgfdjijodlopaaGreatPa
set_option linter.all false
namespace Go.SL.TryzI
open Go Go.Proofs Go.SL
set_option maxRecDepth 100000


open Mes in
/-- a cache that is in order -/
structure CacOk (c : Cfg) (n : Int) (k : Cache) : Prop where
  inv : CInv c k
  cfgR : CfgR c
  ok : c.ok = true
  got : GotLe n k
  small : n ≤ 1000000
section
open Mes
variable {c : Cfg} {n : Int} {k : Cache} (h : CacOk c n k)
include h
theorem CacOk.hc : CfgR k.c := by rw [h.inv.cfg]; exact h.cfgR
theorem CacOk.hok : k.c.ok = true := by rw [h.inv.cfg]; exact h.ok
theorem CacOk.ha : (k.a.length : Int) = k.c.sets * k.c.ways := by
  rw [h.inv.cfg, h.inv.aw.len]
  obtain ⟨m, hm, _⟩ := sw_nat h.ok
  omega
theorem CacOk.hfl : k.f.length ≤ 100000 := by
  have := h.inv.lf
  have := (okS h.ok).mshrs
  omega
theorem CacOk.hbl : k.b.length ≤ 100000 := by
  have := h.inv.lb
  have := (okS h.ok).writebacks
  omega
theorem CacOk.line {l : Int} (hl : 0 ≤ l ∧ l < c.lines) : inR l k.c.lines = true ∧ R64 l := by
  have := ok_lines h.ok
  refine ⟨by rw [h.inv.cfg]; simp [inR, hl], by omega, by omega⟩
theorem CacOk.hw (set way : Int) : ∀ w, wayAt k.c k.a set way = some w → w.state ≠ 0 → inR w.line k.c.lines = true ∧ R64 w.line := fun w hw hs => by
  unfold wayAt at hw
  split at hw
  · exact h.line (h.inv.aw.home _ w hw (by simp [Way.there, hs])).1
  · cases hw
theorem CacOk.hroom : 0 ≤ k.c.writebacks ∧ k.c.writebacks ≤ 1000000 := by
  have := (okS h.ok).writebacks
  rw [h.inv.cfg]; omega
theorem CacOk.hgot (l : Int) : ∀ x, missOf k.f l = some x → -1000000000 ≤ x.got ∧ x.got ≤ 1000000000 := fun x hx => by
  have := (h.inv.okF l x hx).got
  have := h.got l x hx
  have := h.small
  omega
theorem CacOk.hl : ∀ line, missOwing k.f = some line → inR line k.c.lines = true ∧ R64 line := fun l hl => by
  obtain ⟨_, _, _, _, h1⟩ := h.inv.owing hl
  exact h.line h1
theorem CacOk.nx {m : Int} {k' : Cache} (hx : Nx c m k k') (hm : m ≤ 1000000) : CacOk c m k' := ⟨hx.inv, h.cfgR, h.ok, hx.got, hm⟩
end
open Mes in
theorem Nx.cc {c : Cfg} {n : Int} {k k' : Cache} (h : CInv c k) (hx : Nx c n k k') : k'.c = k.c := hx.inv.cfg.trans h.cfg.symm


open Mes in
theorem w_AskF {c : Cfg} {n : Int} {k : Cache} (h : CacOk c n k) {p : Nat} {r : Frag} (hr : IsCac k p r) (line kind : Int) (hline : R64 line) : FnW Tryz.prog 25 [.pointer (some ⟨p, 0, none⟩), i line, i kind] r (fun u r' => u = askV (k.ask line kind) ∧ IsCac (k.ask line kind).1 p r') := by
  obtain ⟨pa, ba, pf, pb, rf, rb, hpab, hF, hB, hdis, rfl⟩ := hr
  refine Fn.pack (w_Ask k.c h.hc h.hok k.core k.a h.ha p pa ba pf pb hpab k.f h.hfl k.b h.hbl rf rb hF hB line kind hline) hdis ?_
  rintro v l' ⟨rfl, rf2, rb2, hF2, hB2, rfl⟩ hd2
  have hx := h.inv.askN (n := max n 0) (by omega) (h.got.mono (by omega)) line kind
  refine ⟨rfl, pa, ba, pf, pb, rf2, rb2, hpab, ?_⟩
  rw [Nx.cc h.inv hx, hx.core]
  exact ⟨hF2, hB2, hd2, rfl⟩

open Mes in
theorem w_EvictF {c : Cfg} {n : Int} {k : Cache} (h : CacOk c n k) {p : Nat} {r : Frag} (hr : IsCac k p r) (set way : Int) : FnW Tryz.prog 23 [.pointer (some ⟨p, 0, none⟩), i set, i way] r (fun u r' => u = evictV (k.evict set way) ∧ IsCac (k.evict set way).1 p r') := by
  obtain ⟨pa, ba, pf, pb, rf, rb, hpab, hF, hB, hdis, rfl⟩ := hr
  refine Fn.pack (w_Evict k.c h.hc h.hok k.core k.a h.ha p pa ba pf pb hpab k.f h.hfl k.b h.hbl rf rb hF hB set way (h.hw set way) h.hroom) hdis ?_
  rintro v l' ⟨rfl, rf2, rb2, hF2, hB2, rfl⟩ hd2
  have hx := h.inv.evictN h.got set way
  refine ⟨rfl, pa, ba, pf, pb, rf2, rb2, hpab, ?_⟩
  rw [Nx.cc h.inv hx, hx.core]
  exact ⟨hF2, hB2, hd2, rfl⟩

open Mes in
theorem w_TakeF {c : Cfg} {n : Int} {k : Cache} (h : CacOk c n k) {p : Nat} {r : Frag} (hr : IsCac k p r) (m : Msg) (hline : R64 m.line) : FnW Tryz.prog 24 [.pointer (some ⟨p, 0, none⟩), .agg (encMsg m).toArray] r (fun u r' => u = evictV (k.take m) ∧ IsCac (k.take m).1 p r') := by
  obtain ⟨pa, ba, pf, pb, rf, rb, hpab, hF, hB, hdis, rfl⟩ := hr
  refine Fn.pack (w_Take k.c h.hc h.hok k.core k.a h.ha p pa ba pf pb hpab k.f h.hfl k.b h.hbl rf rb hF hB m hline (h.hgot m.line)) hdis ?_
  rintro v l' ⟨rfl, rf2, rb2, hF2, hB2, rfl⟩ hd2
  have hx := h.inv.takeN h.got m
  refine ⟨rfl, pa, ba, pf, pb, rf2, rb2, hpab, ?_⟩
  rw [Nx.cc h.inv hx, hx.core]
  exact ⟨hF2, hB2, hd2, rfl⟩

open Mes in
theorem w_FinishF {c : Cfg} {n : Int} {k : Cache} (h : CacOk c n k) {p : Nat} {r : Frag} (hr : IsCac k p r)  : FnW Tryz.prog 44 [.pointer (some ⟨p, 0, none⟩)] r (fun u r' => u = finV k.finish ∧ IsCac k.finish.1 p r') := by
  obtain ⟨pa, ba, pf, pb, rf, rb, hpab, hF, hB, hdis, rfl⟩ := hr
  refine Fn.pack (w_Finish k.c h.hc h.hok k.core k.a h.ha p pa ba pf pb hpab k.f h.hfl k.b h.hbl rf rb hF hB h.hl) hdis ?_
  rintro v l' ⟨rfl, rf2, rb2, hF2, hB2, rfl⟩ hd2
  have hx := h.inv.finN h.got
  refine ⟨rfl, pa, ba, pf, pb, rf2, rb2, hpab, ?_⟩
  rw [Nx.cc h.inv hx, hx.core]
  exact ⟨hF2, hB2, hd2, rfl⟩

open Mes in
theorem w_DoF {c : Cfg} {n : Int} {k : Cache} (h : CacOk c n k) {p : Nat} {r : Frag} (hr : IsCac k p r) (x : Mes.Op) (hx : R64 x.addr) : FnW Tryz.prog 21 [.pointer (some ⟨p, 0, none⟩), .agg (encO x).toArray] r (fun u r' => u = doV (k.do x) ∧ IsCac (k.do x).1 p r') := by
  obtain ⟨pa, ba, pf, pb, rf, rb, hpab, hF, hB, hdis, rfl⟩ := hr
  refine Fn.pack (w_Do k.c h.hc h.hok k.core k.a h.ha p pa ba pf pb hpab k.f h.hfl k.b h.hbl rf rb hF hB x hx) hdis ?_
  rintro v l' ⟨rfl, rf2, rb2, hF2, hB2, rfl⟩ hd2
  have hx := h.inv.doN h.ok h.got x
  refine ⟨rfl, pa, ba, pf, pb, rf2, rb2, hpab, ?_⟩
  rw [Nx.cc h.inv hx, hx.core]
  exact ⟨hF2, hB2, hd2, rfl⟩

open Mes in
theorem w_LookF {c : Cfg} {n : Int} {k : Cache} (h : CacOk c n k) {p : Nat} {r : Frag} (hr : IsCac k p r) (line : Int) (hline : R64 line) : FnR Tryz.prog 17 [.pointer (some ⟨p, 0, none⟩), i line] r (fun u => u = lookV k.c k.a line) := by
  obtain ⟨pa, ba, pf, pb, rf, rb, hpab, hF, hB, hdis, rfl⟩ := hr
  refine Fn.packR (Fn.frame (w_Look k.c h.hc h.hok k.core k.a h.ha p pa ba pf pb hpab line hline) [rf, rb]) hdis ?_
  rintro v l' ⟨l2, ⟨rfl, rfl⟩, rfl⟩
  exact ⟨rfl, rfl⟩

open Mes in
theorem w_WayF {c : Cfg} {n : Int} {k : Cache} (h : CacOk c n k) {p : Nat} {r : Frag} (hr : IsCac k p r) (set way : Int) : FnR Tryz.prog 22 [.pointer (some ⟨p, 0, none⟩), i set, i way] r (fun u => u = atV k.c k.a set way) := by
  obtain ⟨pa, ba, pf, pb, rf, rb, hpab, hF, hB, hdis, rfl⟩ := hr
  refine Fn.packR (Fn.frame (w_Way k.c h.hc h.hok k.core k.a h.ha p pa ba pf pb hpab set way) [rf, rb]) hdis ?_
  rintro v l' ⟨l2, ⟨rfl, rfl⟩, rfl⟩
  exact ⟨rfl, rfl⟩

open Mes in
theorem w_MissesF {c : Cfg} {n : Int} {k : Cache} (h : CacOk c n k) {p : Nat} {r : Frag} (hr : IsCac k p r) : FnRN Tryz.prog 46 [.pointer (some ⟨p, 0, none⟩)] r (fun u r' => IsSl 162 15 (k.f.map encMiss) u r') := by
  obtain ⟨pa, ba, pf, pb, rf, rb, hpab, hF, hB, hdis, rfl⟩ := hr
  intro w F hs
  refine ((w_Misses k.c h.hc h.hok k.core k.a h.ha p pa ba pf pb hpab k.f h.hfl k.b h.hbl rf rb hF hB) w F (Sat.unfold' hdis hs)).mono fun e w' ⟨v, L', h1, ⟨r', h2, h3⟩, h4, h5⟩ => ?_
  subst h3
  refine ⟨v, [r', un _], h1, ⟨r', h2, rfl⟩, ?_, h5⟩
  have h6 : Sat w' ([CacP p k.c k.core pa pf pb, ArrF pa ba k.c k.a, rf, rb] ++ (r' :: F)) := h4.perm (List.perm_middle (a := r') (l₁ := [CacP p k.c k.core pa pf pb, ArrF pa ba k.c k.a, rf, rb]) (l₂ := F)).symm
  exact h6.fold.perm (.swap ..)

open Mes in
theorem w_WrittenF {c : Cfg} {n : Int} {k : Cache} (h : CacOk c n k) {p : Nat} {r : Frag} (hr : IsCac k p r) : FnRN Tryz.prog 45 [.pointer (some ⟨p, 0, none⟩)] r (fun u r' => IsSl 142 10 (k.b.map encWB) u r') := by
  obtain ⟨pa, ba, pf, pb, rf, rb, hpab, hF, hB, hdis, rfl⟩ := hr
  intro w F hs
  refine ((w_Written k.c h.hc h.hok k.core k.a h.ha p pa ba pf pb hpab k.f h.hfl k.b h.hbl rf rb hF hB) w F (Sat.unfold' hdis hs)).mono fun e w' ⟨v, L', h1, ⟨r', h2, h3⟩, h4, h5⟩ => ?_
  subst h3
  refine ⟨v, [r', un _], h1, ⟨r', h2, rfl⟩, ?_, h5⟩
  have h6 : Sat w' ([CacP p k.c k.core pa pf pb, ArrF pa ba k.c k.a, rf, rb] ++ (r' :: F)) := h4.perm (List.perm_middle (a := r') (l₁ := [CacP p k.c k.core pa pf pb, ArrF pa ba k.c k.a, rf, rb]) (l₂ := F)).symm
  exact h6.fold.perm (.swap ..)

open Mes in
def encStep (s : Step) : List Value := [i s.what, i s.a, i s.b, i s.m.kind, i s.m.line, i s.m.frm, i s.m.to, i s.m.who, i s.m.acks, i s.m.own, i (s.m.words.get 0), i (s.m.words.get 1), i (s.m.words.get 2), i (s.m.words.get 3), i (s.m.words.get 4), i (s.m.words.get 5), i (s.m.words.get 6), i (s.m.words.get 7), i s.x.kind, i s.x.addr, i s.x.value]
open Mes in
def encRep (r : Mes.Rep) : List Value := [i r.m.kind, i r.m.line, i r.m.frm, i r.m.to, i r.m.who, i r.m.acks, i r.m.own, i (r.m.words.get 0), i (r.m.words.get 1), i (r.m.words.get 2), i (r.m.words.get 3), i (r.m.words.get 4), i (r.m.words.get 5), i (r.m.words.get 6), i (r.m.words.get 7), .bool r.is, i r.n, i r.e]
open Mes in
structure StepR (s : Step) : Prop where
  a : R64 s.a
  line : R64 s.m.line
  addr : R64 s.x.addr

open Mes in
theorem w_do14 {c : Cfg} {n : Int} {k : Cache} (h : CacOk c n k) {p : Nat} {r : Frag} (hr : IsCac k p r) (s : Step) (hs : StepR s) : FnW Tryz.prog 13 [.pointer (some ⟨p, 0, none⟩), .agg (encStep s).toArray] r (fun u r' => u = .agg (encRep (stepC k s).2).toArray ∧ IsCac (stepC k s).1 p r') := by
  refine Fn.body Tryz.func13 rfl rfl rfl (Nat.le_of_ble_eq_true rfl) fun F => ?_
  refine TC.seq ?_
  refine TC.region ?_
  refine TL.nb (NB.boxA rfl) (Wants.un rfl) rfl (fun b3 => ?_)
  refine TL.nb NB.alloc (Wants.un rfl) rfl (fun b4 => ?_)
  refine TL.nilS ?_
  refine TC.seq ?_
  refine TC.region ?_
  refine .q (LD.bS rfl rfl (by repeat constructor)) rfl rfl ?_
  refine TL.nb NB.alloc (Wants.un rfl) rfl (fun b5 => ?_)
  refine .e (EF.stA (i := 0) rfl rfl rfl rfl rfl rfl (by repeat constructor)) rfl rfl ?_
  refine TL.nilS ?_
  refine TC.seq ?_
  refine TC.seq ?_
  refine TC.region ?_
  refine .q (LD.fieldAddr rfl) rfl rfl ?_
  refine .q (LD.ld1 rfl m2 rfl) rfl rfl ?_
  refine TL.nilS ?_
  refine TC.block ?_
  refine TC.seq ?_
  refine TC.region ?_
  refine .q (LD.eql rfl rfl) rfl rfl ?_
  refine .q (LD.assign rfl) rfl rfl ?_
  refine TL.nilS ?_
  refine TC.cond rfl (fun g1 => ?_) (fun g1 => ?_)
  · have h1 := g1
    try simp at h1
    refine TC.region ?_
    refine .q (LD.move rfl) rfl rfl ?_
    refine .q (LD.fieldAddr rfl) rfl rfl ?_
    refine .q (LD.ld1 rfl m2 rfl) rfl rfl ?_
    refine .q (LD.fieldAddr rfl) rfl rfl ?_
    refine .q (LD.ld1 rfl m2 rfl) rfl rfl ?_
    refine TL.cw (CL.func rfl) (w_AskF h hr s.a s.b hs.a) (i := 3) rfl (Wants.un rfl) rfl ?_
    rintro _ r2 ⟨rfl, hr2⟩
    rw [askV]
    refine .q (LD.move rfl) rfl rfl ?_
    refine .q (LD.ex rfl rfl) rfl rfl ?_
    refine .q (LD.ex rfl rfl) rfl rfl ?_
    refine .q (LD.fieldAddr rfl) rfl rfl ?_
    refine .e (EF.stA (i := 0) rfl rfl rfl rfl rfl rfl (by repeat constructor)) rfl rfl ?_
    refine .q (LD.fieldAddr rfl) rfl rfl ?_
    refine .e (EF.st1 (i := 0) rfl rfl rfl rfl rfl (by repeat constructor)) rfl rfl ?_
    refine TL.nil ?_
    refine TC.seq ?_
    refine TC.region ?_
    refine .q (LD.ldA rfl m0 (by repeat constructor) rfl) rfl rfl ?_
    refine .e (EF.stA (i := 1) rfl rfl rfl rfl rfl rfl (by repeat constructor)) rfl rfl ?_
    refine TL.nilS ?_
    refine TC.ret ?_
    repeat first | refine Post.sr ?_ | refine Post.br ?_
    have e : stepC k s = (if s.what = 0 then _ else _) := rfl
    refine Out.intro (X := [_, _, _]) (L' := [_]) (Res.c rfl (LV.aggL m1 (by repeat constructor) rfl) Res.z) ⟨_, ⟨?_, ?_⟩, rfl⟩ (.refl _)
    · rw [e]; rw [if_pos (by assumption)]; rfl
    · rw [e]; rw [if_pos (by assumption)]; exact hr2
  · have h1 := g1
    try simp at h1
    refine TC.seq ?_
    refine TC.region ?_
    refine .q (LD.eql rfl rfl) rfl rfl ?_
    refine .q (LD.assign rfl) rfl rfl ?_
    refine TL.nilS ?_
    refine TC.cond rfl (fun g2 => ?_) (fun g2 => ?_)
    · have h2 := g2
      try simp at h2
      refine TC.region ?_
      refine .q (LD.move rfl) rfl rfl ?_
      refine .q (LD.fieldAddr rfl) rfl rfl ?_
      refine .q (LD.ld1 rfl m2 rfl) rfl rfl ?_
      refine .q (LD.fieldAddr rfl) rfl rfl ?_
      refine .q (LD.ld1 rfl m2 rfl) rfl rfl ?_
      refine TL.cw (CL.func rfl) (w_EvictF h hr s.a s.b) (i := 3) rfl (Wants.un rfl) rfl ?_
      rintro _ r2 ⟨rfl, hr2⟩
      rw [evictV]
      refine .q (LD.move rfl) rfl rfl ?_
      refine .q (LD.ex rfl rfl) rfl rfl ?_
      refine .q (LD.ex rfl rfl) rfl rfl ?_
      refine .q (LD.ex rfl rfl) rfl rfl ?_
      refine .q (LD.fieldAddr rfl) rfl rfl ?_
      refine .e (EF.stA (i := 0) rfl rfl rfl rfl rfl rfl (by repeat constructor)) rfl rfl ?_
      refine .q (LD.fieldAddr rfl) rfl rfl ?_
      refine .e (EF.st1 (i := 0) rfl rfl rfl rfl rfl (by repeat constructor)) rfl rfl ?_
      refine .q (LD.fieldAddr rfl) rfl rfl ?_
      refine .e (EF.st1 (i := 0) rfl rfl rfl rfl rfl (by repeat constructor)) rfl rfl ?_
      refine TL.nil ?_
      refine TC.seq ?_
      refine TC.region ?_
      refine .q (LD.ldA rfl m0 (by repeat constructor) rfl) rfl rfl ?_
      refine .e (EF.stA (i := 1) rfl rfl rfl rfl rfl rfl (by repeat constructor)) rfl rfl ?_
      refine TL.nilS ?_
      refine TC.ret ?_
      repeat first | refine Post.sr ?_ | refine Post.br ?_
      have e : stepC k s = (if s.what = 0 then _ else _) := rfl
      refine Out.intro (X := [_, _, _]) (L' := [_]) (Res.c rfl (LV.aggL m1 (by repeat constructor) rfl) Res.z) ⟨_, ⟨?_, ?_⟩, rfl⟩ (.refl _)
      · rw [e]; rw [if_neg (by assumption), if_pos (by assumption)]; rfl
      · rw [e]; rw [if_neg (by assumption), if_pos (by assumption)]; exact hr2
    · have h2 := g2
      try simp at h2
      refine TC.seq ?_
      refine TC.region ?_
      refine .q (LD.eql rfl rfl) rfl rfl ?_
      refine .q (LD.assign rfl) rfl rfl ?_
      refine TL.nilS ?_
      refine TC.cond rfl (fun g3 => ?_) (fun g3 => ?_)
      · have h3 := g3
        try simp at h3
        refine TC.region ?_
        refine .q (LD.move rfl) rfl rfl ?_
        refine .q (LD.fieldAddr rfl) rfl rfl ?_
        refine .q (LD.ldA rfl m2 (by repeat constructor) rfl) rfl rfl ?_
        refine TL.cw (CL.func rfl) (w_TakeF h hr s.m hs.line) (i := 3) rfl (Wants.un rfl) rfl ?_
        rintro _ r2 ⟨rfl, hr2⟩
        rw [evictV]
        refine .q (LD.move rfl) rfl rfl ?_
        refine .q (LD.ex rfl rfl) rfl rfl ?_
        refine .q (LD.ex rfl rfl) rfl rfl ?_
        refine .q (LD.ex rfl rfl) rfl rfl ?_
        refine .q (LD.fieldAddr rfl) rfl rfl ?_
        refine .e (EF.stA (i := 0) rfl rfl rfl rfl rfl rfl (by repeat constructor)) rfl rfl ?_
        refine .q (LD.fieldAddr rfl) rfl rfl ?_
        refine .e (EF.st1 (i := 0) rfl rfl rfl rfl rfl (by repeat constructor)) rfl rfl ?_
        refine .q (LD.fieldAddr rfl) rfl rfl ?_
        refine .e (EF.st1 (i := 0) rfl rfl rfl rfl rfl (by repeat constructor)) rfl rfl ?_
        refine TL.nil ?_
        refine TC.seq ?_
        refine TC.region ?_
        refine .q (LD.ldA rfl m0 (by repeat constructor) rfl) rfl rfl ?_
        refine .e (EF.stA (i := 1) rfl rfl rfl rfl rfl rfl (by repeat constructor)) rfl rfl ?_
        refine TL.nilS ?_
        refine TC.ret ?_
        repeat first | refine Post.sr ?_ | refine Post.br ?_
        have e : stepC k s = (if s.what = 0 then _ else _) := rfl
        refine Out.intro (X := [_, _, _]) (L' := [_]) (Res.c rfl (LV.aggL m1 (by repeat constructor) rfl) Res.z) ⟨_, ⟨?_, ?_⟩, rfl⟩ (.refl _)
        · rw [e]; rw [if_neg (by assumption), if_neg (by assumption), if_pos (by assumption)]; rfl
        · rw [e]; rw [if_neg (by assumption), if_neg (by assumption), if_pos (by assumption)]; exact hr2
      · have h3 := g3
        try simp at h3
        refine TC.seq ?_
        refine TC.region ?_
        refine .q (LD.eql rfl rfl) rfl rfl ?_
        refine .q (LD.assign rfl) rfl rfl ?_
        refine TL.nilS ?_
        refine TC.cond rfl (fun g4 => ?_) (fun g4 => ?_)
        · have h4 := g4
          try simp at h4
          refine TC.region ?_
          refine .q (LD.move rfl) rfl rfl ?_
          refine TL.cw (CL.func rfl) (w_FinishF h hr) (i := 3) rfl (Wants.un rfl) rfl ?_
          rintro _ r2 ⟨rfl, hr2⟩
          rw [finV]
          refine .q (LD.move rfl) rfl rfl ?_
          refine .q (LD.ex rfl rfl) rfl rfl ?_
          refine .q (LD.ex rfl rfl) rfl rfl ?_
          refine .q (LD.fieldAddr rfl) rfl rfl ?_
          refine .e (EF.stA (i := 0) rfl rfl rfl rfl rfl rfl (by repeat constructor)) rfl rfl ?_
          refine .q (LD.fieldAddr rfl) rfl rfl ?_
          refine .e (EF.st1 (i := 0) rfl rfl rfl rfl rfl (by repeat constructor)) rfl rfl ?_
          refine TL.nil ?_
          refine TC.seq ?_
          refine TC.region ?_
          refine .q (LD.ldA rfl m0 (by repeat constructor) rfl) rfl rfl ?_
          refine .e (EF.stA (i := 1) rfl rfl rfl rfl rfl rfl (by repeat constructor)) rfl rfl ?_
          refine TL.nilS ?_
          refine TC.ret ?_
          repeat first | refine Post.sr ?_ | refine Post.br ?_
          have e : stepC k s = (if s.what = 0 then _ else _) := rfl
          refine Out.intro (X := [_, _, _]) (L' := [_]) (Res.c rfl (LV.aggL m1 (by repeat constructor) rfl) Res.z) ⟨_, ⟨?_, ?_⟩, rfl⟩ (.refl _)
          · rw [e]; rw [if_neg (by assumption), if_neg (by assumption), if_neg (by assumption), if_pos (by assumption)]; rfl
          · rw [e]; rw [if_neg (by assumption), if_neg (by assumption), if_neg (by assumption), if_pos (by assumption)]; exact hr2
        · have h4 := g4
          try simp at h4
          refine TC.region ?_
          refine .q (LD.move rfl) rfl rfl ?_
          refine .q (LD.fieldAddr rfl) rfl rfl ?_
          refine .q (LD.ldA rfl m2 (by repeat constructor) rfl) rfl rfl ?_
          refine TL.cw (CL.func rfl) (w_DoF h hr s.x hs.addr) (i := 3) rfl (Wants.un rfl) rfl ?_
          rintro _ r2 ⟨rfl, hr2⟩
          rw [doV]
          refine .q (LD.move rfl) rfl rfl ?_
          refine .q (LD.ex rfl rfl) rfl rfl ?_
          refine .q (LD.ex rfl rfl) rfl rfl ?_
          refine .q (LD.fieldAddr rfl) rfl rfl ?_
          refine .e (EF.st1 (i := 0) rfl rfl rfl rfl rfl (by repeat constructor)) rfl rfl ?_
          refine .q (LD.fieldAddr rfl) rfl rfl ?_
          refine .e (EF.st1 (i := 0) rfl rfl rfl rfl rfl (by repeat constructor)) rfl rfl ?_
          refine TL.nil ?_
          refine TC.seq ?_
          refine TC.region ?_
          refine .q (LD.ldA rfl m0 (by repeat constructor) rfl) rfl rfl ?_
          refine .e (EF.stA (i := 1) rfl rfl rfl rfl rfl rfl (by repeat constructor)) rfl rfl ?_
          refine TL.nilS ?_
          refine TC.ret ?_
          repeat first | refine Post.sr ?_ | refine Post.br ?_
          have e : stepC k s = (if s.what = 0 then _ else _) := rfl
          refine Out.intro (X := [_, _, _]) (L' := [_]) (Res.c rfl (LV.aggL m1 (by repeat constructor) rfl) Res.z) ⟨_, ⟨?_, ?_⟩, rfl⟩ (.refl _)
          · rw [e]; rw [if_neg (by assumption), if_neg (by assumption), if_neg (by assumption), if_neg (by assumption)]; rfl
          · rw [e]; rw [if_neg (by assumption), if_neg (by assumption), if_neg (by assumption), if_neg (by assumption)]; exact hr2
open Mes in
theorem w_large14 (c : Cfg) : FnP Tryz.prog 10 [.agg (encC c)] (fun v => v = .bool (decide (64 < c.lines) && decide (c.lines ≤ 1024))) := by
  refine Fn.body Tryz.func10 rfl rfl rfl (Nat.le_of_ble_eq_true rfl) fun F => ?_
  refine TC.seq ?_
  refine TC.region ?_
  refine TL.nb (NB.boxA rfl) (Wants.un rfl) rfl (fun b1 => ?_)
  refine .q (LD.assign rfl) rfl rfl ?_
  refine TL.nilS ?_
  refine TC.seq ?_
  refine TC.region ?_
  refine .q (LD.fieldAddr rfl) rfl rfl ?_
  refine .q (LD.ld1 rfl m0 rfl) rfl rfl ?_
  refine .q (LD.gtr rfl rfl) rfl rfl ?_
  refine .q (LD.move rfl) rfl rfl ?_
  refine TL.split rfl rfl rfl rfl (fun g1 => ?_) (fun g1 => ?_)
  · have h1 := g1
    try simp at h1
    refine .y (LD.fieldAddr rfl) g1 rfl rfl rfl rfl ?_
    refine .y (LD.ld1 rfl m0 rfl) g1 rfl rfl rfl rfl ?_
    refine .y (LD.leq rfl rfl) g1 rfl rfl rfl rfl ?_
    refine .q (LD.pickT rfl g1 rfl) rfl rfl ?_
    refine .q (LD.assign rfl) rfl rfl ?_
    refine TL.nilS ?_
    refine TC.ret ?_
    repeat first | refine Post.sr ?_ | refine Post.br ?_
    exact Out.intro (X := [_]) (L' := []) (Res.t rfl Res.z) ⟨by simp_all [pack] <;> omega, rfl⟩ (.refl _)
  · have h1 := g1
    try simp at h1
    refine .s g1 rfl rfl rfl rfl ?_
    refine .s g1 rfl rfl rfl rfl ?_
    refine .q (LD.pickF rfl g1 rfl) rfl rfl ?_
    refine .q (LD.assign rfl) rfl rfl ?_
    refine TL.nilS ?_
    refine TC.ret ?_
    repeat first | refine Post.sr ?_ | refine Post.br ?_
    exact Out.intro (X := [_]) (L' := []) (Res.t rfl Res.z) ⟨by simp_all [pack] <;> omega, rfl⟩ (.refl _)

instance eqMsg : EqA Tryz.prog 38 4 (true :: true :: true :: true :: true :: true :: true :: (List.replicate 8 true ++ [])) := EqA.struct Tryz.underlying38 Tryz.stoodInHeld38 (
  .one (by decide) rfl inferInstance inferInstance (.one (by decide) rfl inferInstance inferInstance (.one (by decide) rfl inferInstance inferInstance (.one (by decide) rfl inferInstance inferInstance
  (.one (by decide) rfl inferInstance inferInstance (.one (by decide) rfl inferInstance inferInstance (.one (by decide) rfl inferInstance inferInstance (.agg (by decide) rfl (inferInstanceAs (Agg Tryz.prog 36 8)) eqW (by decide) rfl .nil))))))))

namespace Aw
open Mes
def c0 : Cfg := ⟨2, 1, 1, 1, 2, 4, 0, 1, 1, 1, 1, 1, 1⟩
def w56 : Words := ⟨[5, 6, 0, 0, 0, 0, 0, 0], rfl⟩
def w59 : Words := ⟨[5, 9, 0, 0, 0, 0, 0, 0], rfl⟩
def k0 : Cache := Cache.new c0 1
def k1 : Cache := (k0.ask 3 2).1
def m2 : Msg := ⟨7, 3, 0, 1, 0, 0, 4, w56⟩
def k2 : Cache := (k1.take m2).1
def k3 : Cache := (k2.do ⟨3, 7, 9⟩).1
def k4 : Cache := k3.finish.1
def k5 : Cache := (k4.evict 0 0).1
def m6 : Msg := ⟨5, 3, 0, 1, 0, 1, 0, Words.zero⟩
def k6 : Cache := (k5.take m6).1
def m7 : Msg := ⟨5, 3, 0, 1, 0, 0, 0, Words.zero⟩
theorem e1 : k0.ask 3 2 = (k1, ⟨2, 3, 1, 0, 0, 0, 0, Words.zero⟩, 0) := by decide +kernel
theorem e1d : k1.do ⟨1, 7, 0⟩ = (k1, 0, 5) := by decide +kernel
theorem e2 : k1.take m2 = (k2, Msg.none, false, 0) := by decide +kernel
theorem e3 : k2.do ⟨3, 7, 9⟩ = (k3, 6, 0) := by decide +kernel
theorem e4 : k3.finish = (k4, some ⟨11, 3, 1, 0, 0, 0, 0, Words.zero⟩) := by decide +kernel
theorem e5 : k4.evict 0 0 = (k5, ⟨3, 3, 1, 0, 0, 0, 0, w59⟩, true, 0) := by decide +kernel
theorem e6 : k5.take m6 = (k6, ⟨7, 3, 1, 0, 1, 1, 4, w59⟩, true, 0) := by decide +kernel
theorem e7 : k6.take m7 = (k6, Msg.none, false, 7) := by decide +kernel
theorem f6 : k6.f = [] := by decide +kernel
theorem b6 : k6.b = [⟨3, w59, false⟩] := by decide +kernel
theorem r64 {x : Int} (h : -1000000 ≤ x ∧ x ≤ 1000000) : R64 x := ⟨by omega, by omega⟩
theorem ok0 : CacOk c0 0 k0 := ⟨CInv.new (by decide +kernel) 1, by refine ⟨r64 ?_, r64 ?_, r64 ?_, r64 ?_, r64 ?_, r64 ?_, r64 ?_, r64 ?_, r64 ?_, r64 ?_, r64 ?_, r64 ?_, r64 ?_⟩ <;> decide, by decide +kernel, (fun l m h => by simp [k0, Cache.new, missOf] at h), by decide⟩
theorem ok1 : CacOk c0 0 k1 := ok0.nx (ok0.inv.askN (by decide) ok0.got 3 2) (by decide)
theorem ok2 : CacOk c0 1 k2 := ok1.nx (ok1.inv.takeN ok1.got m2) (by decide)
theorem ok3 : CacOk c0 1 k3 := ok2.nx (ok2.inv.doN ok2.ok ok2.got _) (by decide)
theorem ok4 : CacOk c0 1 k4 := ok3.nx (ok3.inv.finN ok3.got) (by decide)
theorem ok5 : CacOk c0 1 k5 := ok4.nx (ok4.inv.evictN ok4.got 0 0) (by decide)
theorem ok6 : CacOk c0 2 k6 := ok5.nx (ok5.inv.takeN ok5.got m6) (by decide)
end Aw
theorem CacNew.ok {c : Mes.Cfg} {core : Int} (h1 : c.ok = true) (h2 : Mes.inR core c.cores = true) {v : Value} {r : Frag} (h : CacNew c core v r) : ∃ p, v = .tuple [.pointer (some ⟨p, 0, none⟩), i 0].toArray ∧ IsCac (Mes.Cache.new c core) p r := by
  rcases h with ⟨_, _, p, h3, h4⟩ | ⟨h3, _⟩
  · exact ⟨p, h3, h4⟩
  · rw [h1, h2] at h3; cases h3
theorem CacNew.no {c : Mes.Cfg} {core : Int} (h1 : (c.ok && Mes.inR core c.cores) = false) {v : Value} {r : Frag} (h : CacNew c core v r) : v = .tuple [.pointer none, i 1].toArray ∧ r = nof := by
  rcases h with ⟨h3, h4, _⟩ | ⟨_, h3, h4⟩
  · rw [h3, h4] at h1; cases h1
  · exact ⟨h3, h4⟩

open Mes in
theorem w_awake14  : FnP Tryz.prog 9 [] (fun v => v = .bool true) := by
  refine Fn.body Tryz.func9 rfl rfl rfl (Nat.le_of_ble_eq_true rfl) fun F => ?_
  refine TC.seq ?_
  refine TC.region ?_
  refine .q (LD.assign rfl) rfl rfl ?_
  refine TL.nilS ?_
  refine TC.seq ?_
  refine TC.region ?_
  refine .q (LD.bA rfl rfl (by repeat constructor)) rfl rfl ?_
  refine .q (LD.bS rfl rfl (by repeat constructor)) rfl rfl ?_
  refine TL.nb NB.alloc (Wants.un rfl) rfl (fun b1 => ?_)
  refine .e (EF.stA (i := 0) rfl rfl rfl rfl rfl rfl (by repeat constructor)) rfl rfl ?_
  refine TL.nilS ?_
  refine TC.seq ?_
  refine TC.region ?_
  refine .q (LD.ldA rfl m0 (by repeat constructor) rfl) rfl rfl ?_
  refine TL.cn (CL.func rfl) (w_CacNew Aw.c0 Aw.ok0.cfgR 1) (Wants.un rfl) rfl ?_
  intro v0 r0 hn0
  obtain ⟨p, rfl, hr0⟩ := hn0.ok (by decide +kernel) (by decide +kernel)
  refine .q (LD.move rfl) rfl rfl ?_
  refine .q (LD.ex rfl rfl) rfl rfl ?_
  refine .q (LD.ex rfl rfl) rfl rfl ?_
  refine .q (LD.assign rfl) rfl rfl ?_
  refine .q (LD.assign rfl) rfl rfl ?_
  refine TL.nilS ?_
  refine TC.seq ?_
  refine TC.region ?_
  refine .q (LD.ldA rfl m1 (by repeat constructor) rfl) rfl rfl ?_
  refine TL.cn (CL.func rfl) (w_CacNew Aw.c0 Aw.ok0.cfgR 2) (Wants.un rfl) rfl ?_
  intro v0 r00 hn0
  obtain ⟨rfl, rfl⟩ := hn0.no (by decide +kernel)
  refine .q (LD.move rfl) rfl rfl ?_
  refine .q (LD.ex rfl rfl) rfl rfl ?_
  refine .q (LD.ex rfl rfl) rfl rfl ?_
  refine .q (LD.assign rfl) rfl rfl ?_
  refine .q (LD.assign rfl) rfl rfl ?_
  refine TL.nilS ?_
  refine TC.seq ?_
  refine TC.seq ?_
  refine TC.region ?_
  refine .q (LD.move rfl) rfl rfl ?_
  refine .q (LD.ptrEql rfl rfl Tryz.underlying28 (by first | exact .inr rfl | exact .inl rfl)) rfl rfl ?_
  refine TL.nilS ?_
  refine TC.condF rfl rfl ?_
  refine TC.skipS ?_
  refine TC.seq ?_
  refine TC.region ?_
  refine .q (LD.move rfl) rfl rfl ?_
  refine TL.cw (CL.func rfl) (w_AskF Aw.ok0 hr0 3 2 (Aw.r64 (by decide))) (i := 1) rfl (Wants.un rfl) rfl ?_
  rintro _ r1 ⟨rfl, hr1⟩
  rw [Aw.e1] at hr1 ⊢
  rw [askV]
  refine .q (LD.move rfl) rfl rfl ?_
  refine .q (LD.ex rfl rfl) rfl rfl ?_
  refine .q (LD.ex rfl rfl) rfl rfl ?_
  refine TL.nb NB.alloc (Wants.un rfl) rfl (fun b6 => ?_)
  refine .e (EF.stA (i := 0) rfl rfl rfl rfl rfl rfl (by repeat constructor)) rfl rfl ?_
  refine .q (LD.assign rfl) rfl rfl ?_
  refine TL.nilS ?_
  refine TC.seq ?_
  refine TC.region ?_
  refine .q (LD.move rfl) rfl rfl ?_
  refine .q (LD.bS rfl rfl (by repeat constructor)) rfl rfl ?_
  refine TL.cw (CL.func rfl) (w_DoF Aw.ok1 hr1 ⟨1, 7, 0⟩ (Aw.r64 (by decide))) (i := 2) rfl (Wants.un rfl) rfl ?_
  rintro _ r2 ⟨rfl, hr2⟩
  rw [Aw.e1d] at hr2 ⊢
  rw [doV]
  refine .q (LD.move rfl) rfl rfl ?_
  refine .q (LD.ex rfl rfl) rfl rfl ?_
  refine .q (LD.ex rfl rfl) rfl rfl ?_
  refine .q (LD.assign rfl) rfl rfl ?_
  refine .q (LD.assign rfl) rfl rfl ?_
  refine TL.nilS ?_
  refine TC.seq ?_
  refine TC.region ?_
  refine .q (LD.move rfl) rfl rfl ?_
  refine .q (LD.bA rfl rfl (by repeat constructor)) rfl rfl ?_
  refine .q (LD.bS rfl rfl (by repeat constructor)) rfl rfl ?_
  refine TL.cw (CL.func rfl) (w_TakeF Aw.ok1 hr2 Aw.m2 (Aw.r64 (by decide))) (i := 2) rfl (Wants.un rfl) rfl ?_
  rintro _ r3 ⟨rfl, hr3⟩
  rw [Aw.e2] at hr3 ⊢
  rw [evictV]
  refine .q (LD.move rfl) rfl rfl ?_
  refine .q (LD.ex rfl rfl) rfl rfl ?_
  refine .q (LD.ex rfl rfl) rfl rfl ?_
  refine .q (LD.ex rfl rfl) rfl rfl ?_
  refine TL.nb NB.alloc (Wants.un rfl) rfl (fun b10 => ?_)
  refine .e (EF.stA (i := 0) rfl rfl rfl rfl rfl rfl (by repeat constructor)) rfl rfl ?_
  refine .q (LD.assign rfl) rfl rfl ?_
  refine .q (LD.assign rfl) rfl rfl ?_
  refine TL.nilS ?_
  refine TC.seq ?_
  refine TC.region ?_
  refine .q (LD.move rfl) rfl rfl ?_
  refine .q (LD.bS rfl rfl (by repeat constructor)) rfl rfl ?_
  refine TL.cw (CL.func rfl) (w_DoF Aw.ok2 hr3 ⟨3, 7, 9⟩ (Aw.r64 (by decide))) (i := 3) rfl (Wants.un rfl) rfl ?_
  rintro _ r4 ⟨rfl, hr4⟩
  rw [Aw.e3] at hr4 ⊢
  rw [doV]
  refine .q (LD.move rfl) rfl rfl ?_
  refine .q (LD.ex rfl rfl) rfl rfl ?_
  refine .q (LD.ex rfl rfl) rfl rfl ?_
  refine .q (LD.assign rfl) rfl rfl ?_
  refine .q (LD.assign rfl) rfl rfl ?_
  refine TL.nilS ?_
  refine TC.seq ?_
  refine TC.region ?_
  refine .q (LD.move rfl) rfl rfl ?_
  refine TL.cw (CL.func rfl) (w_FinishF Aw.ok3 hr4) (i := 3) rfl (Wants.un rfl) rfl ?_
  rintro _ r5 ⟨rfl, hr5⟩
  rw [Aw.e4] at hr5 ⊢
  rw [finV]
  refine .q (LD.move rfl) rfl rfl ?_
  refine .q (LD.ex rfl rfl) rfl rfl ?_
  refine .q (LD.ex rfl rfl) rfl rfl ?_
  refine TL.nb NB.alloc (Wants.un rfl) rfl (fun b15 => ?_)
  refine .e (EF.stA (i := 0) rfl rfl rfl rfl rfl rfl (by repeat constructor)) rfl rfl ?_
  refine .q (LD.assign rfl) rfl rfl ?_
  refine TL.nilS ?_
  refine TC.seq ?_
  refine TC.region ?_
  refine .q (LD.move rfl) rfl rfl ?_
  refine TL.cw (CL.func rfl) (w_EvictF Aw.ok4 hr5 0 0) (i := 4) rfl (Wants.un rfl) rfl ?_
  rintro _ r6 ⟨rfl, hr6⟩
  rw [Aw.e5] at hr6 ⊢
  rw [evictV]
  refine .q (LD.move rfl) rfl rfl ?_
  refine .q (LD.ex rfl rfl) rfl rfl ?_
  refine .q (LD.ex rfl rfl) rfl rfl ?_
  refine .q (LD.ex rfl rfl) rfl rfl ?_
  refine TL.nb NB.alloc (Wants.un rfl) rfl (fun b17 => ?_)
  refine .e (EF.stA (i := 0) rfl rfl rfl rfl rfl rfl (by repeat constructor)) rfl rfl ?_
  refine .q (LD.assign rfl) rfl rfl ?_
  refine .q (LD.assign rfl) rfl rfl ?_
  refine TL.nilS ?_
  refine TC.seq ?_
  refine TC.region ?_
  refine .q (LD.move rfl) rfl rfl ?_
  refine .q (LD.bS rfl rfl (by repeat constructor)) rfl rfl ?_
  refine TL.cw (CL.func rfl) (w_TakeF Aw.ok5 hr6 Aw.m6 (Aw.r64 (by decide))) (i := 5) rfl (Wants.un rfl) rfl ?_
  rintro _ r7 ⟨rfl, hr7⟩
  rw [Aw.e6] at hr7 ⊢
  rw [evictV]
  refine .q (LD.move rfl) rfl rfl ?_
  refine .q (LD.ex rfl rfl) rfl rfl ?_
  refine .q (LD.ex rfl rfl) rfl rfl ?_
  refine .q (LD.ex rfl rfl) rfl rfl ?_
  refine TL.nb NB.alloc (Wants.un rfl) rfl (fun b20 => ?_)
  refine .e (EF.stA (i := 0) rfl rfl rfl rfl rfl rfl (by repeat constructor)) rfl rfl ?_
  refine .q (LD.assign rfl) rfl rfl ?_
  refine .q (LD.assign rfl) rfl rfl ?_
  refine TL.nilS ?_
  refine TC.seq ?_
  refine TC.region ?_
  refine .q (LD.move rfl) rfl rfl ?_
  refine .q (LD.bS rfl rfl (by repeat constructor)) rfl rfl ?_
  refine TL.cw (CL.func rfl) (w_TakeF Aw.ok6 hr7 Aw.m7 (Aw.r64 (by decide))) (i := 6) rfl (Wants.un rfl) rfl ?_
  rintro _ r8 ⟨rfl, hr8⟩
  rw [Aw.e7] at hr8 ⊢
  rw [evictV]
  refine .q (LD.move rfl) rfl rfl ?_
  refine .q (LD.ex rfl rfl) rfl rfl ?_
  refine .q (LD.ex rfl rfl) rfl rfl ?_
  refine .q (LD.ex rfl rfl) rfl rfl ?_
  refine TL.nb NB.alloc (Wants.un rfl) rfl (fun b23 => ?_)
  refine .e (EF.stA (i := 0) rfl rfl rfl rfl rfl rfl (by repeat constructor)) rfl rfl ?_
  refine .q (LD.assign rfl) rfl rfl ?_
  refine .q (LD.assign rfl) rfl rfl ?_
  refine TL.nilS ?_
  refine TC.seq ?_
  refine TC.region ?_
  refine .q (LD.move rfl) rfl rfl ?_
  refine TL.crn (CL.func rfl) (w_WrittenF Aw.ok6 hr8) m7 (Wants.un rfl) rfl ?_
  intro v9 s hs
  rw [Aw.b6] at hs
  obtain ⟨b, cc, rest, rfl, rfl, hJ, hk, hc1, hc2⟩ := hs.at_ (J := 0) (e := encWB ⟨3, Aw.w59, false⟩) rfl
  have hl := encWB_len [⟨3, Aw.w59, false⟩]
  refine .q (LD.assign rfl) rfl rfl ?_
  refine TL.nilS ?_
  refine TC.seq ?_
  refine TC.region ?_
  refine .q (LD.move rfl) rfl rfl ?_
  refine .q (LD.eql rfl rfl) rfl rfl ?_
  refine .q (LD.move rfl) rfl rfl ?_
  refine .y (LD.move rfl) rfl rfl rfl rfl rfl ?_
  refine .y (LD.eql rfl rfl) rfl rfl rfl rfl rfl ?_
  refine .q (LD.pickT rfl rfl rfl) rfl rfl ?_
  refine .q (LD.move rfl) rfl rfl ?_
  refine .y (LD.ldA rfl m6 (by repeat constructor) rfl) rfl rfl rfl rfl rfl ?_
  refine .y (LD.bS rfl rfl (by repeat constructor)) rfl rfl rfl rfl rfl ?_
  refine .y (LD.eqS rfl rfl Tryz.eqGuardType38 rfl (by repeat first | exact rfl | refine ⟨_, _, rfl, ⟨_, rfl⟩, ?_⟩) (by repeat first | exact rfl | refine ⟨_, _, rfl, ⟨_, rfl⟩, ?_⟩)) rfl rfl rfl rfl rfl ?_
  refine .q (LD.pickT rfl rfl rfl) rfl rfl ?_
  refine .q (LD.move rfl) rfl rfl ?_
  refine .y (LD.move rfl) rfl rfl rfl rfl rfl ?_
  refine .y (LD.eql rfl rfl) rfl rfl rfl rfl rfl ?_
  refine .q (LD.pickT rfl rfl rfl) rfl rfl ?_
  refine .q (LD.move rfl) rfl rfl ?_
  refine .y (LD.move rfl) rfl rfl rfl rfl rfl ?_
  refine .y (LD.eql rfl rfl) rfl rfl rfl rfl rfl ?_
  refine .q (LD.pickT rfl rfl rfl) rfl rfl ?_
  refine .q (LD.move rfl) rfl rfl ?_
  refine .y (LD.move rfl) rfl rfl rfl rfl rfl ?_
  refine .y (LD.not rfl) rfl rfl rfl rfl rfl ?_
  refine .q (LD.pickT rfl rfl rfl) rfl rfl ?_
  refine .q (LD.move rfl) rfl rfl ?_
  refine .y (LD.move rfl) rfl rfl rfl rfl rfl ?_
  refine .y (LD.eql rfl rfl) rfl rfl rfl rfl rfl ?_
  refine .q (LD.pickT rfl rfl rfl) rfl rfl ?_
  refine .q (LD.move rfl) rfl rfl ?_
  refine .y (LD.move rfl) rfl rfl rfl rfl rfl ?_
  refine .y (LD.eql rfl rfl) rfl rfl rfl rfl rfl ?_
  refine .q (LD.pickT rfl rfl rfl) rfl rfl ?_
  refine .q (LD.move rfl) rfl rfl ?_
  refine .y (LD.move rfl) rfl rfl rfl rfl rfl ?_
  refine .y (LD.eql rfl rfl) rfl rfl rfl rfl rfl ?_
  refine .q (LD.pickT rfl rfl rfl) rfl rfl ?_
  refine .q (LD.move rfl) rfl rfl ?_
  refine .y (LD.ldA rfl m4 (by repeat constructor) rfl) rfl rfl rfl rfl rfl ?_
  refine .y (LD.bS rfl rfl (by repeat constructor)) rfl rfl rfl rfl rfl ?_
  refine .y (LD.eqS rfl rfl Tryz.eqGuardType38 rfl (by repeat first | exact rfl | refine ⟨_, _, rfl, ⟨_, rfl⟩, ?_⟩) (by repeat first | exact rfl | refine ⟨_, _, rfl, ⟨_, rfl⟩, ?_⟩)) rfl rfl rfl rfl rfl ?_
  refine .q (LD.pickT rfl rfl rfl) rfl rfl ?_
  refine .q (LD.move rfl) rfl rfl ?_
  refine .y (LD.move rfl) rfl rfl rfl rfl rfl ?_
  refine .q (LD.pickT rfl rfl rfl) rfl rfl ?_
  refine .q (LD.move rfl) rfl rfl ?_
  refine .y (LD.ldA rfl m3 (by repeat constructor) rfl) rfl rfl rfl rfl rfl ?_
  refine .y (LD.bA rfl rfl (by repeat constructor)) rfl rfl rfl rfl rfl ?_
  refine .y (LD.bS rfl rfl (by repeat constructor)) rfl rfl rfl rfl rfl ?_
  refine .y (LD.eqS rfl rfl Tryz.eqGuardType38 rfl (by repeat first | exact rfl | refine ⟨_, _, rfl, ⟨_, rfl⟩, ?_⟩) (by repeat first | exact rfl | refine ⟨_, _, rfl, ⟨_, rfl⟩, ?_⟩)) rfl rfl rfl rfl rfl ?_
  refine .q (LD.pickT rfl rfl rfl) rfl rfl ?_
  refine .q (LD.move rfl) rfl rfl ?_
  refine .y (LD.move rfl) rfl rfl rfl rfl rfl ?_
  refine .q (LD.pickT rfl rfl rfl) rfl rfl ?_
  refine .q (LD.move rfl) rfl rfl ?_
  refine .y (LD.move rfl) rfl rfl rfl rfl rfl ?_
  refine .y (LD.eql rfl rfl) rfl rfl rfl rfl rfl ?_
  refine .q (LD.pickT rfl rfl rfl) rfl rfl ?_
  refine .q (LD.move rfl) rfl rfl ?_
  refine .y (LD.ldA rfl m2 (by repeat constructor) rfl) rfl rfl rfl rfl rfl ?_
  refine .y (LD.bA rfl rfl (by repeat constructor)) rfl rfl rfl rfl rfl ?_
  refine .y (LD.bS rfl rfl (by repeat constructor)) rfl rfl rfl rfl rfl ?_
  refine .y (LD.eqS rfl rfl Tryz.eqGuardType38 rfl (by repeat first | exact rfl | refine ⟨_, _, rfl, ⟨_, rfl⟩, ?_⟩) (by repeat first | exact rfl | refine ⟨_, _, rfl, ⟨_, rfl⟩, ?_⟩)) rfl rfl rfl rfl rfl ?_
  refine .q (LD.pickT rfl rfl rfl) rfl rfl ?_
  refine .q (LD.move rfl) rfl rfl ?_
  refine .y (LD.move rfl) rfl rfl rfl rfl rfl ?_
  refine .q (LD.pickT rfl rfl rfl) rfl rfl ?_
  refine .q (LD.move rfl) rfl rfl ?_
  refine .y (LD.move rfl) rfl rfl rfl rfl rfl ?_
  refine .y (LD.eql rfl rfl) rfl rfl rfl rfl rfl ?_
  refine .q (LD.pickT rfl rfl rfl) rfl rfl ?_
  refine .q (LD.move rfl) rfl rfl ?_
  refine .y (LD.move rfl) rfl rfl rfl rfl rfl ?_
  refine .y (LD.eql rfl rfl) rfl rfl rfl rfl rfl ?_
  refine .q (LD.pickT rfl rfl rfl) rfl rfl ?_
  refine .q (LD.move rfl) rfl rfl ?_
  refine .y (LD.move rfl) rfl rfl rfl rfl rfl ?_
  refine .y (LD.lenS rfl rfl Tryz.underlying140) rfl rfl rfl rfl rfl ?_
  refine .y (LD.eql rfl rfl) rfl rfl rfl rfl rfl ?_
  refine .q (LD.pickT rfl rfl rfl) rfl rfl ?_
  refine .q (LD.move rfl) rfl rfl ?_
  refine .y (LD.move rfl) rfl rfl rfl rfl rfl ?_
  refine .y (LD.indexAddr rfl rfl rfl (by decide)) rfl rfl rfl rfl rfl ?_
  refine .y (LD.fieldAddr rfl) rfl rfl rfl rfl rfl ?_
  refine .y (LD.f1 (J := 0) (f := 9) rfl m0 (foc_same ..) rfl hJ hl rfl (by omega) rfl) rfl rfl rfl rfl rfl ?_
  refine .y (LD.not rfl) rfl rfl rfl rfl rfl ?_
  refine .q (LD.pickT rfl rfl rfl) rfl rfl ?_
  refine .q (LD.move rfl) rfl rfl ?_
  refine .y (LD.move rfl) rfl rfl rfl rfl rfl ?_
  refine TL.crn (CL.func rfl) (w_MissesF Aw.ok6 hr8) m8 (Wants.yes rfl rfl rfl rfl) rfl ?_
  intro v10 s2 hs2
  rw [Aw.f6] at hs2
  obtain ⟨q2, cap2, rfl, _⟩ := hs2.rd
  refine .y (LD.lenS rfl rfl Tryz.underlying143) rfl rfl rfl rfl rfl ?_
  refine .y (LD.eql rfl rfl) rfl rfl rfl rfl rfl ?_
  refine .q (LD.pickT rfl rfl rfl) rfl rfl ?_
  refine .q (LD.assign rfl) rfl rfl ?_
  refine TL.nilS ?_
  refine TC.ret ?_
  repeat first | refine Post.sr ?_ | refine Post.br ?_
  exact Out.intro (X := [_, _, _, _, _, _, _, _, _, _, _]) (L' := []) (Res.t rfl Res.z) ⟨rfl, rfl⟩ (.refl _)
end Go.SL.TryzI
