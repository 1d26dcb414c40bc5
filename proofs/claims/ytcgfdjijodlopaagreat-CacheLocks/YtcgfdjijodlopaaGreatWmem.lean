/- A part of proofs about the given program. No condition. -/
import Derived.Test.YtcgfdjijodlopaaGreatWprog
import Derived.Test.YtcgfdjijodlopaaGreatEb
set_option linter.all false
namespace Go.SL.TryzI
open Go Go.Proofs Go.SL
set_option maxRecDepth 100000


/-! memory -/
theorem set_same {cs : Array Value} {o : Nat} {v : Value} (h : cs[o]? = some v) : cs.setIfInBounds o v = cs := by
  apply Array.ext'
  rw [Array.toList_setIfInBounds]
  apply List.ext_getElem?
  intro j
  rw [List.getElem?_set]
  split
  · rename_i e; subst e
    have : cs.toList[o]? = some v := by simpa using h
    rw [this]; have := (List.getElem?_eq_some_iff.1 this).1; rw [if_pos (by simpa using this)]
  · rfl

open Mes in
theorem w_touch (T b o : Nat) (cs : Array Value) (was : Int) (x : Mes.Op) (hg : cs[o]? = some (i was)) : FnW Tryz.prog 146 [.pointer (some ⟨b, o, none⟩), .agg (encO x).toArray] (blk b T cs) (fun v r => v = i (touch was x).2 ∧ r = blk b T (cs.setIfInBounds o (i (touch was x).1))) := by
  refine Fn.body Tryz.func146 rfl rfl rfl (Nat.le_of_ble_eq_true rfl) fun F => ?_
  refine TC.seq ?_
  refine TC.region ?_
  refine TL.nb (NB.boxA rfl) (Wants.un rfl) rfl (fun b3 => ?_)
  refine .q (LD.assign rfl) rfl rfl ?_
  refine TL.nilS ?_
  refine TC.seq ?_
  refine TC.region ?_
  refine .q (LD.move rfl) rfl rfl ?_
  refine .q (LD.nilCheck rfl) rfl rfl ?_
  refine .q (LD.load1 rfl m1 hg) rfl rfl ?_
  refine .q (LD.assign rfl) rfl rfl ?_
  refine TL.nilS ?_
  refine TC.seq ?_
  refine TC.seq ?_
  refine TC.region ?_
  refine .q (LD.fieldAddr rfl) rfl rfl ?_
  refine .q (LD.ld1 rfl m0 rfl) rfl rfl ?_
  refine TL.nilS ?_
  refine TC.block ?_
  refine TC.seq ?_
  refine TC.region ?_
  refine .q (LD.eql rfl rfl) rfl rfl ?_
  refine .q (LD.assign rfl) rfl rfl ?_
  refine TL.nilS ?_
  refine TC.cond rfl (fun g1 => ?_) (fun g1 => ?_)
  · have h1 := g1
    try simp at h1
    refine TC.seq ?_
    refine TC.region ?_
    refine .q (LD.move rfl) rfl rfl ?_
    refine .q (LD.fieldAddr rfl) rfl rfl ?_
    refine .q (LD.ld1 rfl m0 rfl) rfl rfl ?_
    refine .q (LD.nilCheck rfl) rfl rfl ?_
    refine .e (EF.store1 (i := 1) rfl rfl rfl rfl (Array.getElem?_eq_some_iff.1 hg).1) rfl rfl ?_
    refine TL.nilS ?_
    refine TC.seq ?_
    refine TC.region ?_
    refine .q (LD.assign rfl) rfl rfl ?_
    refine TL.nilS ?_
    refine TC.ret ?_
    repeat first | refine Post.sr ?_ | refine Post.br ?_
    exact Out.intro (X := [_]) (L' := [_]) (Res.t rfl Res.z) ⟨_, ⟨by simp [touch, h1, pack], by simp [touch, h1]⟩, rfl⟩ (.refl _)
  · have h1 := g1
    try simp at h1
    refine TC.seq ?_
    refine TC.region ?_
    refine .q (LD.eql rfl rfl) rfl rfl ?_
    refine .q (LD.assign rfl) rfl rfl ?_
    refine TL.nilS ?_
    refine TC.cond rfl (fun g2 => ?_) (fun g2 => ?_)
    · have h2 := g2
      try simp at h2
      refine TC.region ?_
      refine .q (LD.move rfl) rfl rfl ?_
      refine .q (LD.fieldAddr rfl) rfl rfl ?_
      refine .q (LD.ld1 rfl m0 rfl) rfl rfl ?_
      refine .q (LD.nilCheck rfl) rfl rfl ?_
      refine .e (EF.store1 (i := 1) rfl rfl rfl rfl (Array.getElem?_eq_some_iff.1 hg).1) rfl rfl ?_
      refine TL.nil ?_
      refine TC.seq ?_
      refine TC.region ?_
      refine .q (LD.move rfl) rfl rfl ?_
      refine .q (LD.assign rfl) rfl rfl ?_
      refine TL.nilS ?_
      refine TC.ret ?_
      repeat first | refine Post.sr ?_ | refine Post.br ?_
      exact Out.intro (X := [_]) (L' := [_]) (Res.t rfl Res.z) ⟨_, ⟨by simp [touch, h2, pack], by simp [touch, h2]⟩, rfl⟩ (.refl _)
    · have h2 := g2
      try simp at h2
      refine TC.skip ?_
      refine TC.seq ?_
      refine TC.region ?_
      refine .q (LD.move rfl) rfl rfl ?_
      refine .q (LD.assign rfl) rfl rfl ?_
      refine TL.nilS ?_
      refine TC.ret ?_
      repeat first | refine Post.sr ?_ | refine Post.br ?_
      exact Out.intro (X := [_]) (L' := [_]) (Res.t rfl Res.z) ⟨_, ⟨by simp [touch, h1, h2, pack], by simp [touch, h1, h2, set_same hg]⟩, rfl⟩ (.refl _)

open Mes in
def encM (c : Cfg) (v : Value) : List Value := [i c.cores, i c.homes, i c.sets, i c.ways, i c.words, i c.lines, i c.pointers, i c.mshrs, i c.buffer, i c.writebacks, i c.r0, i c.r1, i c.r2, v]
open Mes in
/-- a memory: its sizes, and its words -/
def IsMem (c : Cfg) (ws : List Int) (p : Nat) (r : Frag) : Prop := ∃ b, p ≠ b ∧ r = un [blk p 270 (encM c (.slice (some ⟨b, 0, none⟩) ws.length ws.length)).toArray, blk b 3 (ws.map i).toArray]
theorem words_get {ws : List Int} {x : Int} (h : 0 ≤ x ∧ x < ws.length) : (ws.map i).toArray[0 + x.toNat * 1]? = some (i (ws.getD x.toNat 0)) := by
  have : x.toNat < ws.length := by omega
  simp [this]


theorem may_addr {x : Mes.Op} (h : x.may = true) (h4 : ¬ x.kind = 4) : 0 ≤ x.addr := by
  simp only [Mes.Op.may, Mes.inC, if_neg h4] at h
  split at h
  · simp at h; omega
  · split at h
    · simp at h; omega
    · cases h
theorem map_set {ws : List Int} {o : Nat} {v : Int} : ((ws.map i).toArray.setIfInBounds o (i v)) = ((ws.set o v).map i).toArray := by simp [List.map_set]


open Mes in
theorem size_nat {c : Cfg} : ∃ m : Nat, c.size = m ∧ m ≤ 8192 ∧ (c.ok = true → 1 ≤ m) := by
  cases hk : c.ok
  · exact ⟨0, by simp [Cfg.size, hk], by omega, by simp⟩
  · have hs := okS hk
    obtain ⟨j1, _, e1, e1'⟩ := hs.words
    obtain ⟨j2, _, e2, e2'⟩ := hs.lines
    have p1 := pow_pos j1
    have p2 := pow_pos j2
    have hb : 1 * 1 ≤ c.words * c.lines ∧ c.words * c.lines ≤ 8 * 1024 := ⟨Int.mul_le_mul (by omega) (by omega) (by omega) (by omega), Int.mul_le_mul (by omega) (by omega) (by omega) (by omega)⟩
    have e : c.size = c.words * c.lines := by simp [Cfg.size, hk]
    exact ⟨c.size.toNat, by omega, by omega, fun _ => by omega⟩
open Mes in
def MemNew (c : Cfg) (v : Value) (r : Frag) : Prop := (c.ok = true ∧ ∃ p, v = .tuple #[.pointer (some ⟨p, 0, none⟩), i 0] ∧ IsMem c (List.replicate c.size.toNat 0) p r) ∨ (c.ok = false ∧ v = .tuple #[.pointer none, i 1] ∧ r = nof)

open Mes in
theorem w_MemNew (c : Cfg) (hc : CfgR c) : FnN Tryz.prog 94 [.agg (encC c)] (MemNew c) := by
  refine Fn.body Tryz.func94 rfl rfl rfl (Nat.le_of_ble_eq_true rfl) fun F => ?_
  refine TC.seq ?_
  refine TC.region ?_
  refine TL.nb (NB.boxA rfl) (Wants.un rfl) rfl (fun b1 => ?_)
  refine .q (LD.assign rfl) rfl rfl ?_
  refine .q (LD.assign rfl) rfl rfl ?_
  refine TL.nilS ?_
  refine TC.seq ?_
  refine TC.seq ?_
  refine TC.region ?_
  refine .q (LD.ldA rfl m0 (by repeat constructor) rfl) rfl rfl ?_
  refine TL.cp (CL.func rfl) (w_Check c hc) (Wants.un rfl) rfl ?_
  rintro _ rfl
  refine .q (LD.assign rfl) rfl rfl ?_
  refine TL.nilS ?_
  refine TC.seq ?_
  refine TC.region ?_
  refine .q (LD.move rfl) rfl rfl ?_
  refine .q (LD.neq rfl rfl) rfl rfl ?_
  refine TL.nilS ?_
  refine TC.cond rfl (fun g1 => ?_) (fun g1 => ?_)
  · have h1 := g1
    try simp at h1
    refine TC.seq ?_
    refine TC.region ?_
    refine .q (LD.move rfl) rfl rfl ?_
    refine .q (LD.assign rfl) rfl rfl ?_
    refine .q (LD.assign rfl) rfl rfl ?_
    refine TL.nilS ?_
    refine TC.ret ?_
    repeat first | refine Post.sr ?_ | refine Post.br ?_
    exact Out.introE (X := [_]) (L0 := []) (L' := [_]) (Res.t rfl (Res.t rfl Res.z)) ⟨nof, .inr ⟨by simpa using h1, by rw [show c.ok = false from by simpa using h1]; rfl, rfl⟩, rfl⟩ (.refl _) Ent.nof
  · have h1 := g1
    try simp at h1
    refine TC.skipS ?_
    refine TC.seq ?_
    refine TC.draw0 [0, 0, 2, 3, 0, 3, 0, 0] [0, 1, 2, 3, 4, 5, 6, 7] TryzI.mixed (by decide +kernel) (by decide) ?_
    obtain ⟨m, hsz, hm, _⟩ := size_nat (c := c)
    have hok : c.ok = true := by simpa using h1
    refine .q rfl rfl (LD.ldA rfl m0 (by repeat constructor) rfl) rfl rfl ?_
    refine .q rfl rfl (LD.ldA rfl m0 (by repeat constructor) rfl) rfl rfl ?_
    refine TD.cp rfl rfl (CL.func rfl) (w_Size c hc) (Wants.un rfl) rfl ?_
    rintro _ rfl
    rw [hsz]
    refine TD.nb rfl rfl (NB.mkS rfl rfl rfl (by omega)) (Wants.un rfl) rfl (fun b13 => ?_)
    refine .q rfl rfl (LD.bS rfl rfl (by repeat constructor)) rfl rfl ?_
    refine TD.nb rfl rfl (NB.boxA rfl) (Wants.un rfl) rfl (fun b15 => ?_)
    refine .q rfl rfl (LD.assign rfl) rfl rfl ?_
    refine .q rfl rfl (LD.assign rfl) rfl rfl ?_
    refine TD.nilT ?_
    refine TC.dis fun hd => ?_
    refine TC.ret ?_
    repeat first | refine Post.sr ?_ | refine Post.br ?_
    refine Out.introE (X := []) (L0 := [_, _, _]) (L' := [_]) (Res.t rfl (Res.t rfl Res.z)) ⟨_, .inl ⟨hok, _, rfl, _, neq_dis hd, ?_⟩, rfl⟩ (.refl _) (Ent.foldT [_, _] [_])
    simp only [hsz, Int.toNat_natCast, List.length_replicate, List.map_replicate]
    rfl
end Go.SL.TryzI
