/- A part of proofs about the given program. No condition. -/
import Derived.Test.YtcgfdjijodlopaaGreatWarr
import Derived.Test.YtcgfdjijodlopaaGreatEb
import Derived.Test.YtcgfdjijodlopaaGreatPa
set_option linter.all false
namespace Go.SL.TryzI
open Go Go.Proofs Go.SL
set_option maxRecDepth 100000


theorem Ent.foldc (r : Frag) (l : List Frag) : Ent (r :: l) [r, un l] := fun w F h => by
  have h1 : Sat w (l ++ (r :: F)) := h.perm (by simpa using (List.perm_middle (a := r) (l₁ := l) (l₂ := F)).symm)
  exact h1.fold.perm (.swap ..)
theorem er_map {α β : Type} (g : α → β) : ∀ (l : List α) (j : Nat), (l.eraseIdx j).map g = (l.map g).eraseIdx j
  | [], _ => rfl
  | _ :: _, 0 => rfl
  | x :: l, j + 1 => by simp [er_map g l j]
theorem Ent.nofc {L : List Frag} : Ent L (nof :: L) := fun _ _ h => h.nof
open Mes in
def encMiss (m : Miss) : List Value := [i m.line, i m.kind, i m.needs, i m.got, i m.own, i (m.words.get 0), i (m.words.get 1), i (m.words.get 2), i (m.words.get 3), i (m.words.get 4), i (m.words.get 5), i (m.words.get 6), i (m.words.get 7), .bool m.granted, .bool m.owes]
open Mes in
theorem encMiss_len (a : List Miss) : ∀ e ∈ a.map encMiss, e.length = 15 := fun e he => by
  obtain ⟨x, _, rfl⟩ := List.mem_map.1 he; rfl
open Mes in
theorem encMiss_one (a : List Miss) : ∀ e ∈ a.map encMiss, ∀ v ∈ e, v.oneCell' = true := fun e he => by
  obtain ⟨x, _, rfl⟩ := List.mem_map.1 he
  exact ones_spec rfl
/-- a file's own cells -/
def FilP (p : Nat) (room : Int) (v : Value) : Frag := blk p 236 [i room, v].toArray
open Mes in
/-- a file: its room, and its misses -/
def IsFile (room : Int) (f : List Miss) (p : Nat) (r : Frag) : Prop := ∃ v rs, IsSl 162 15 (f.map encMiss) v rs ∧ Disj (FilP p room v) rs ∧ r = un [FilP p room v, rs]
theorem findIdx_map {α : Type} {l : List α} {p : α → Bool} {j : Nat} (h : l.findIdx? p = some j) : ∃ x, l[j]? = some x ∧ p x = true ∧ l.find? p = some x := by
  rw [List.findIdx?_eq_some_iff_getElem] at h
  obtain ⟨h1, h2, h3⟩ := h
  refine ⟨l[j], List.getElem?_eq_getElem h1, h2, ?_⟩
  rw [List.find?_eq_some_iff_getElem]
  exact ⟨h2, j, h1, rfl, fun k hk => by simpa using h3 k hk⟩
theorem find_none_idx {α : Type} {l : List α} {p : α → Bool} (h : l.findIdx? p = none) : l.find? p = none := by
  rw [List.findIdx?_eq_none_iff] at h
  exact List.find?_eq_none.2 (by simpa using h)
theorem ptrO_slice (b c n k j : Nat) : ptrO (.slice (some ⟨b, 0, none⟩) n c) k (some j) = some ⟨b, 0 + j * k, none⟩ := rfl
theorem IsSl.isSlice {T k : Nat} {es : List (List Value)} {v : Value} {r : Frag} (h : IsSl T k es v r) : ∃ q c, v = .slice q es.length c ∧ Rd r q k es := h.rd
theorem mod_set {α β : Type} {l : List α} {j : Nat} {x : α} (hx : l[j]? = some x) (g : α → α) (enc : α → β) : (l.modify j g).map enc = (l.map enc).set j (enc (g x)) := by
  apply List.ext_getElem?
  intro k
  rw [List.getElem?_map, List.getElem?_modify, List.getElem?_set]
  split
  · rename_i e; subst e; rw [hx]; have := (List.getElem?_eq_some_iff.1 hx).1; simp [this]
  · simp

open Mes in
theorem w_Clonemshr_Miss (es : List (List Value)) (q : Option Addr) (cap : Nat) (r : Frag) (hr : Rd r q 15 es) (hlen : es.length ≤ 1000000) : FnRN Tryz.prog 167 [.slice q es.length cap] r (fun v r' => IsSl 162 15 es v r') := by
  refine Fn.body Tryz.func167 rfl rfl rfl (Nat.le_of_ble_eq_true rfl) fun F => ?_
  refine TC.seq ?_
  refine TC.region ?_
  refine .q (LD.assign rfl) rfl rfl ?_
  refine TL.nilS ?_
  refine TC.seq ?_
  refine TC.seq ?_
  refine TC.region ?_
  refine .q (LD.move rfl) rfl rfl ?_
  refine .q (LD.sNil rfl rfl Tryz.underlying143) rfl rfl ?_
  refine TL.nilS ?_
  refine TC.cond rfl (fun g1 => ?_) (fun g1 => ?_)
  · have h1 := g1
    try simp at h1
    refine TC.seq ?_
    refine TC.region ?_
    refine .q (LD.assign rfl) rfl rfl ?_
    refine TL.nilS ?_
    refine TC.ret ?_
    repeat first | refine Post.sr ?_ | refine Post.br ?_
    have hq : q = none := by cases q <;> simp_all
    have he : es = [] := by
      rcases hr.at_ with h | ⟨b, o, cs, T, fr, h, _⟩
      · exact h
      · rw [hq] at h; cases h
    exact Out.introE (X := []) (L0 := [_]) (L' := [_, _]) (Res.t rfl Res.z) ⟨nof, by rw [he]; exact IsSl.nil _ _, rfl⟩ (.refl _) Ent.nofc
  · have h1 := g1
    try simp at h1
    refine TC.skipS ?_
    refine TC.seq ?_
    refine TC.region ?_
    refine TL.nb NB.bSl0 (Wants.un rfl) rfl (fun b5 => ?_)
    refine .q (LD.move rfl) rfl rfl ?_
    refine TL.ex (EX.append (es := []) rfl rfl rfl (IsSl.mk (rest := []) (c := 0) (by simp) (by simp) (by simp) (by simp)) hr m1 (by simp only [List.length_nil]; omega) (by simp only [List.length_nil]; omega)) (Wants.un rfl) rfl ?_
    rintro v L' ⟨r', rfl, hsl⟩
    rw [List.nil_append] at hsl
    refine .q (LD.assign rfl) rfl rfl ?_
    refine TL.nilS ?_
    refine TC.ret ?_
    repeat first | refine Post.sr ?_ | refine Post.br ?_
    exact Out.intro (X := []) (L' := [_, _]) (Res.t rfl Res.z) ⟨_, hsl, rfl⟩ (.refl _)
open Mes in
theorem w_Clonewriteback_Entry (es : List (List Value)) (q : Option Addr) (cap : Nat) (r : Frag) (hr : Rd r q 10 es) (hlen : es.length ≤ 1000000) : FnRN Tryz.prog 191 [.slice q es.length cap] r (fun v r' => IsSl 142 10 es v r') := by
  refine Fn.body Tryz.func191 rfl rfl rfl (Nat.le_of_ble_eq_true rfl) fun F => ?_
  refine TC.seq ?_
  refine TC.region ?_
  refine .q (LD.assign rfl) rfl rfl ?_
  refine TL.nilS ?_
  refine TC.seq ?_
  refine TC.seq ?_
  refine TC.region ?_
  refine .q (LD.move rfl) rfl rfl ?_
  refine .q (LD.sNil rfl rfl Tryz.underlying140) rfl rfl ?_
  refine TL.nilS ?_
  refine TC.cond rfl (fun g1 => ?_) (fun g1 => ?_)
  · have h1 := g1
    try simp at h1
    refine TC.seq ?_
    refine TC.region ?_
    refine .q (LD.assign rfl) rfl rfl ?_
    refine TL.nilS ?_
    refine TC.ret ?_
    repeat first | refine Post.sr ?_ | refine Post.br ?_
    have hq : q = none := by cases q <;> simp_all
    have he : es = [] := by
      rcases hr.at_ with h | ⟨b, o, cs, T, fr, h, _⟩
      · exact h
      · rw [hq] at h; cases h
    exact Out.introE (X := []) (L0 := [_]) (L' := [_, _]) (Res.t rfl Res.z) ⟨nof, by rw [he]; exact IsSl.nil _ _, rfl⟩ (.refl _) Ent.nofc
  · have h1 := g1
    try simp at h1
    refine TC.skipS ?_
    refine TC.seq ?_
    refine TC.region ?_
    refine TL.nb NB.bSl0 (Wants.un rfl) rfl (fun b5 => ?_)
    refine .q (LD.move rfl) rfl rfl ?_
    refine TL.ex (EX.append (es := []) rfl rfl rfl (IsSl.mk (rest := []) (c := 0) (by simp) (by simp) (by simp) (by simp)) hr m1 (by simp only [List.length_nil]; omega) (by simp only [List.length_nil]; omega)) (Wants.un rfl) rfl ?_
    rintro v L' ⟨r', rfl, hsl⟩
    rw [List.nil_append] at hsl
    refine .q (LD.assign rfl) rfl rfl ?_
    refine TL.nilS ?_
    refine TC.ret ?_
    repeat first | refine Post.sr ?_ | refine Post.br ?_
    exact Out.intro (X := []) (L' := [_, _]) (Res.t rfl Res.z) ⟨_, hsl, rfl⟩ (.refl _)
open Mes in
theorem w_Cloneapi_Message (es : List (List Value)) (q : Option Addr) (cap : Nat) (r : Frag) (hr : Rd r q 15 es) (hlen : es.length ≤ 1000000) : FnRN Tryz.prog 223 [.slice q es.length cap] r (fun v r' => IsSl 38 15 es v r') := by
  refine Fn.body Tryz.func223 rfl rfl rfl (Nat.le_of_ble_eq_true rfl) fun F => ?_
  refine TC.seq ?_
  refine TC.region ?_
  refine .q (LD.assign rfl) rfl rfl ?_
  refine TL.nilS ?_
  refine TC.seq ?_
  refine TC.seq ?_
  refine TC.region ?_
  refine .q (LD.move rfl) rfl rfl ?_
  refine .q (LD.sNil rfl rfl Tryz.underlying214) rfl rfl ?_
  refine TL.nilS ?_
  refine TC.cond rfl (fun g1 => ?_) (fun g1 => ?_)
  · have h1 := g1
    try simp at h1
    refine TC.seq ?_
    refine TC.region ?_
    refine .q (LD.assign rfl) rfl rfl ?_
    refine TL.nilS ?_
    refine TC.ret ?_
    repeat first | refine Post.sr ?_ | refine Post.br ?_
    have hq : q = none := by cases q <;> simp_all
    have he : es = [] := by
      rcases hr.at_ with h | ⟨b, o, cs, T, fr, h, _⟩
      · exact h
      · rw [hq] at h; cases h
    exact Out.introE (X := []) (L0 := [_]) (L' := [_, _]) (Res.t rfl Res.z) ⟨nof, by rw [he]; exact IsSl.nil _ _, rfl⟩ (.refl _) Ent.nofc
  · have h1 := g1
    try simp at h1
    refine TC.skipS ?_
    refine TC.seq ?_
    refine TC.region ?_
    refine TL.nb NB.bSl0 (Wants.un rfl) rfl (fun b5 => ?_)
    refine .q (LD.move rfl) rfl rfl ?_
    refine TL.ex (EX.append (es := []) rfl rfl rfl (IsSl.mk (rest := []) (c := 0) (by simp) (by simp) (by simp) (by simp)) hr m1 (by simp only [List.length_nil]; omega) (by simp only [List.length_nil]; omega)) (Wants.un rfl) rfl ?_
    rintro v L' ⟨r', rfl, hsl⟩
    rw [List.nil_append] at hsl
    refine .q (LD.assign rfl) rfl rfl ?_
    refine TL.nilS ?_
    refine TC.ret ?_
    repeat first | refine Post.sr ?_ | refine Post.br ?_
    exact Out.intro (X := []) (L' := [_, _]) (Res.t rfl Res.z) ⟨_, hsl, rfl⟩ (.refl _)
open Mes in
theorem w_Cloneint (es : List (List Value)) (q : Option Addr) (cap : Nat) (r : Frag) (hr : Rd r q 1 es) (hlen : es.length ≤ 1000000) : FnRN Tryz.prog 240 [.slice q es.length cap] r (fun v r' => IsSl 3 1 es v r') := by
  refine Fn.body Tryz.func240 rfl rfl rfl (Nat.le_of_ble_eq_true rfl) fun F => ?_
  refine TC.seq ?_
  refine TC.region ?_
  refine .q (LD.assign rfl) rfl rfl ?_
  refine TL.nilS ?_
  refine TC.seq ?_
  refine TC.seq ?_
  refine TC.region ?_
  refine .q (LD.move rfl) rfl rfl ?_
  refine .q (LD.sNil rfl rfl Tryz.underlying121) rfl rfl ?_
  refine TL.nilS ?_
  refine TC.cond rfl (fun g1 => ?_) (fun g1 => ?_)
  · have h1 := g1
    try simp at h1
    refine TC.seq ?_
    refine TC.region ?_
    refine .q (LD.assign rfl) rfl rfl ?_
    refine TL.nilS ?_
    refine TC.ret ?_
    repeat first | refine Post.sr ?_ | refine Post.br ?_
    have hq : q = none := by cases q <;> simp_all
    have he : es = [] := by
      rcases hr.at_ with h | ⟨b, o, cs, T, fr, h, _⟩
      · exact h
      · rw [hq] at h; cases h
    exact Out.introE (X := []) (L0 := [_]) (L' := [_, _]) (Res.t rfl Res.z) ⟨nof, by rw [he]; exact IsSl.nil _ _, rfl⟩ (.refl _) Ent.nofc
  · have h1 := g1
    try simp at h1
    refine TC.skipS ?_
    refine TC.seq ?_
    refine TC.region ?_
    refine TL.nb NB.bSl0 (Wants.un rfl) rfl (fun b5 => ?_)
    refine .q (LD.move rfl) rfl rfl ?_
    refine TL.ex (EX.append (es := []) rfl rfl rfl (IsSl.mk (rest := []) (c := 0) (by simp) (by simp) (by simp) (by simp)) hr m1 (by simp only [List.length_nil]; omega) (by simp only [List.length_nil]; omega)) (Wants.un rfl) rfl ?_
    rintro v L' ⟨r', rfl, hsl⟩
    rw [List.nil_append] at hsl
    refine .q (LD.assign rfl) rfl rfl ?_
    refine TL.nilS ?_
    refine TC.ret ?_
    repeat first | refine Post.sr ?_ | refine Post.br ?_
    exact Out.intro (X := []) (L' := [_, _]) (Res.t rfl Res.z) ⟨_, hsl, rfl⟩ (.refl _)

open Mes in
def FileNew (room : Int) (v : Value) (r : Frag) : Prop := (1 ≤ room ∧ room ≤ 8 ∧ ∃ p, v = .tuple #[.pointer (some ⟨p, 0, none⟩), i 0] ∧ IsFile room [] p r) ∨ (¬ (1 ≤ room ∧ room ≤ 8) ∧ v = .tuple #[.pointer none, i 1] ∧ r = nof)

open Mes in
theorem w_FileNew (room : Int) : FnN Tryz.prog 48 [i room] (FileNew room) := by
  refine Fn.body Tryz.func48 rfl rfl rfl (Nat.le_of_ble_eq_true rfl) fun F => ?_
  refine TC.seq ?_
  refine TC.region ?_
  refine .q (LD.assign rfl) rfl rfl ?_
  refine .q (LD.assign rfl) rfl rfl ?_
  refine TL.nilS ?_
  refine TC.seq ?_
  refine TC.seq ?_
  refine TC.region ?_
  refine .q (LD.move rfl) rfl rfl ?_
  refine .q (LD.lss rfl rfl) rfl rfl ?_
  refine .q (LD.move rfl) rfl rfl ?_
  refine TL.split rfl rfl rfl rfl (fun g1 => ?_) (fun g1 => ?_)
  · have h1 := g1
    try simp at h1
    refine .y (LD.move rfl) g1 rfl rfl rfl rfl ?_
    refine .y (LD.gtr rfl rfl) g1 rfl rfl rfl rfl ?_
    refine .q (LD.pickF rfl g1 rfl) rfl rfl ?_
    refine TL.nilS ?_
    refine TC.cond rfl (fun g2 => ?_) (fun g2 => ?_)
    · have h2 := g2
      try simp at h2
      refine TC.seq ?_
      refine TC.region ?_
      refine .q (LD.assign rfl) rfl rfl ?_
      refine .q (LD.assign rfl) rfl rfl ?_
      refine TL.nilS ?_
      refine TC.ret ?_
      repeat first | refine Post.sr ?_ | refine Post.br ?_
      exact Out.introE (X := []) (L0 := []) (L' := [_]) (Res.t rfl (Res.t rfl Res.z)) ⟨nof, .inr ⟨by omega, rfl, rfl⟩, rfl⟩ (.refl _) Ent.nof
    · have h2 := g2
      try simp at h2
      refine TC.skipS ?_
      refine TC.seq ?_
      refine TC.region ?_
      refine .q (LD.move rfl) rfl rfl ?_
      refine .q (LD.bS rfl rfl (by repeat constructor)) rfl rfl ?_
      refine TL.nb (NB.boxA rfl) (Wants.un rfl) rfl (fun b12 => ?_)
      refine .q (LD.assign rfl) rfl rfl ?_
      refine .q (LD.assign rfl) rfl rfl ?_
      refine TL.nilS ?_
      refine TC.ret ?_
      repeat first | refine Post.sr ?_ | refine Post.br ?_
      exact Out.introE (X := []) (L0 := [_]) (L' := [_]) (Res.t rfl (Res.t rfl Res.z)) ⟨_, .inl ⟨by omega, by omega, _, rfl, _, nof, IsSl.nil _ _, fun _ => .inr rfl, rfl⟩, rfl⟩ (.refl _) (fun w F h => Sat.fold (l := [_, nof]) ((h.nof).perm (.swap ..)))
  · have h1 := g1
    try simp at h1
    refine .s g1 rfl rfl rfl rfl ?_
    refine .q (LD.pickT rfl g1 rfl) rfl rfl ?_
    refine TL.nilS ?_
    refine TC.condT rfl rfl ?_
    refine TC.seq ?_
    refine TC.region ?_
    refine .q (LD.assign rfl) rfl rfl ?_
    refine .q (LD.assign rfl) rfl rfl ?_
    refine TL.nilS ?_
    refine TC.ret ?_
    repeat first | refine Post.sr ?_ | refine Post.br ?_
    exact Out.introE (X := []) (L0 := []) (L' := [_]) (Res.t rfl (Res.t rfl Res.z)) ⟨nof, .inr ⟨by omega, rfl, rfl⟩, rfl⟩ (.refl _) Ent.nof
open Mes in
theorem w_mAt (room : Int) (f : List Miss) (p : Nat) (v : Value) (s : Frag) (hs : IsSl 162 15 (f.map encMiss) v s) (hlen : f.length ≤ 100000) (fn : Nat) [FnAt Tryz.prog fn] (first caps : List Value) (pre : List Frag) (P : Miss → Bool)
    (hf : ∀ x ∈ f, Fn Tryz.prog fn (first ++ [.agg (encMiss x).toArray] ++ caps) pre (fun v L' => v = .bool (P x) ∧ L' = pre)) :
    Fn Tryz.prog 188 [.pointer (some ⟨p, 0, none⟩), .func (.func fn) first.toArray caps.toArray] (FilP p room v :: s :: pre) (fun u L' => u = i (idxOf (f.findIdx? P)) ∧ L' = FilP p room v :: s :: pre) := by
  refine Fn.body Tryz.func188 rfl rfl rfl (Nat.le_of_ble_eq_true rfl) fun F => ?_
  refine TC.seq ?_
  refine TC.region ?_
  refine .q (LD.assign rfl) rfl rfl ?_
  refine TL.nilS ?_
  refine TC.seq ?_
  refine TC.region ?_
  refine .q (LD.move rfl) rfl rfl ?_
  refine .q (LD.nilCheck rfl) rfl rfl ?_
  refine .q (LD.fieldAddr rfl) rfl rfl ?_
  refine .q (LD.ld1 rfl m0 rfl) rfl rfl ?_
  obtain ⟨q, cap, rfl, hrd⟩ := hs.rd
  refine .q (LD.move rfl) rfl rfl ?_
  have e : (f.map encMiss).length = f.length := List.length_map ..
  rw [e]
  refine TL.cl (F := FilP p room (.slice q f.length cap) :: F) (CL.func rfl) (w_IndexMiss f encMiss q cap s hrd fn first caps pre P (by omega) hf) (List.perm_middle (a := FilP p room (.slice q f.length cap)) (l₁ := s :: pre) (l₂ := F)).symm (Wants.un rfl) rfl ?_
  rintro _ L2 ⟨rfl, rfl⟩
  refine .q (LD.assign rfl) rfl rfl ?_
  refine TL.nilS ?_
  refine TC.ret ?_
  repeat first | refine Post.sr ?_ | refine Post.br ?_
  exact Out.intro (X := []) (L' := FilP p room _ :: s :: pre) (Res.t rfl Res.z) ⟨rfl, rfl⟩ (List.perm_middle (a := FilP p room (.slice q f.length cap)) (l₁ := s :: pre) (l₂ := F))
open Mes in
theorem w_mOf1 (m : Miss) (line : Int) (b : Nat) : FnR Tryz.prog 208 [.agg (encMiss m).toArray, .pointer (some ⟨b, 0, none⟩)] (blk b 3 [i line].toArray) (fun v => v = .bool (m.line == line)) := by
  refine Fn.body Tryz.func208 rfl rfl rfl (Nat.le_of_ble_eq_true rfl) fun F => ?_
  refine TC.seq ?_
  refine TC.region ?_
  refine TL.nb (NB.boxA rfl) (Wants.un rfl) rfl (fun b2 => ?_)
  refine .q (LD.assign rfl) rfl rfl ?_
  refine TL.nilS ?_
  refine TC.seq ?_
  refine TC.region ?_
  refine .q (LD.fieldAddr rfl) rfl rfl ?_
  refine .q (LD.ld1 rfl m0 rfl) rfl rfl ?_
  refine .q (LD.ld1 rfl m1 rfl) rfl rfl ?_
  refine .q (LD.eql rfl rfl) rfl rfl ?_
  refine .q (LD.assign rfl) rfl rfl ?_
  refine TL.nilS ?_
  refine TC.ret ?_
  repeat first | refine Post.sr ?_ | refine Post.br ?_
  exact Out.intro (X := [_]) (L' := [_]) (Res.t rfl Res.z) ⟨by simp only [pack, beq_int], rfl⟩ (.refl _)
open Mes in
theorem w_mClose1 (m : Miss) (line : Int) (b : Nat) : FnR Tryz.prog 190 [.agg (encMiss m).toArray, .pointer (some ⟨b, 0, none⟩)] (blk b 3 [i line].toArray) (fun v => v = .bool (m.line == line)) := by
  refine Fn.body Tryz.func190 rfl rfl rfl (Nat.le_of_ble_eq_true rfl) fun F => ?_
  refine TC.seq ?_
  refine TC.region ?_
  refine TL.nb (NB.boxA rfl) (Wants.un rfl) rfl (fun b2 => ?_)
  refine .q (LD.assign rfl) rfl rfl ?_
  refine TL.nilS ?_
  refine TC.seq ?_
  refine TC.region ?_
  refine .q (LD.fieldAddr rfl) rfl rfl ?_
  refine .q (LD.ld1 rfl m0 rfl) rfl rfl ?_
  refine .q (LD.ld1 rfl m1 rfl) rfl rfl ?_
  refine .q (LD.eql rfl rfl) rfl rfl ?_
  refine .q (LD.assign rfl) rfl rfl ?_
  refine TL.nilS ?_
  refine TC.ret ?_
  repeat first | refine Post.sr ?_ | refine Post.br ?_
  exact Out.intro (X := [_]) (L' := [_]) (Res.t rfl Res.z) ⟨by simp only [pack, beq_int], rfl⟩ (.refl _)
open Mes in
theorem w_mOwing1 (m : Miss) : FnP Tryz.prog 189 [.agg (encMiss m).toArray] (fun v => v = .bool m.owes) := by
  refine Fn.body Tryz.func189 rfl rfl rfl (Nat.le_of_ble_eq_true rfl) fun F => ?_
  refine TC.seq ?_
  refine TC.region ?_
  refine TL.nb (NB.boxA rfl) (Wants.un rfl) rfl (fun b1 => ?_)
  refine .q (LD.assign rfl) rfl rfl ?_
  refine TL.nilS ?_
  refine TC.seq ?_
  refine TC.region ?_
  refine .q (LD.fieldAddr rfl) rfl rfl ?_
  refine .q (LD.ld1 rfl m0 rfl) rfl rfl ?_
  refine .q (LD.assign rfl) rfl rfl ?_
  refine TL.nilS ?_
  refine TC.ret ?_
  repeat first | refine Post.sr ?_ | refine Post.br ?_
  exact Out.intro (X := [_]) (L' := []) (Res.t rfl Res.z) ⟨rfl, rfl⟩ (.refl _)
open Mes in
theorem w_mOf (room : Int) (f : List Miss) (p : Nat) (v : Value) (s : Frag) (hs : IsSl 162 15 (f.map encMiss) v s) (hlen : f.length ≤ 100000) (line : Int) : Fn Tryz.prog 163 [.pointer (some ⟨p, 0, none⟩), i line] [FilP p room v, s] (fun u L' => u = .pointer (ptrO v 15 (missAt f line)) ∧ L' = [FilP p room v, s]) := by
  refine Fn.body Tryz.func163 rfl rfl rfl (Nat.le_of_ble_eq_true rfl) fun F => ?_
  refine TC.seq ?_
  refine TC.region ?_
  refine TL.nb (NB.box1 rfl rfl) (Wants.un rfl) rfl (fun b3 => ?_)
  refine .q (LD.assign rfl) rfl rfl ?_
  refine TL.nilS ?_
  refine TC.seq ?_
  refine TC.region ?_
  refine .q (LD.move rfl) rfl rfl ?_
  refine .q (LD.makeFunc rfl rfl) rfl rfl ?_
  refine TL.cl (pre := [_, _, _]) (F := F) (CL.func rfl) (w_mAt room f p v s hs hlen 208 [] [.pointer (some ⟨b3, 0, none⟩)] [_] (fun m => m.line == line) (fun x _ => w_mOf1 x line b3)) perm3 (Wants.un rfl) rfl ?_
  rintro _ _ ⟨rfl, rfl⟩
  refine TL.perm perm3' ?_
  refine .q (LD.assign rfl) rfl rfl ?_
  refine TL.nilS ?_
  refine TC.seq ?_
  refine TC.seq ?_
  refine TC.region ?_
  refine .q (LD.move rfl) rfl rfl ?_
  refine .q (LD.lss rfl rfl) rfl rfl ?_
  refine TL.nilS ?_
  refine TC.cond rfl (fun g1 => ?_) (fun g1 => ?_)
  · have h1 := g1
    try simp at h1
    refine TC.seq ?_
    refine TC.region ?_
    refine .q (LD.assign rfl) rfl rfl ?_
    refine TL.nilS ?_
    refine TC.ret ?_
    repeat first | refine Post.sr ?_ | refine Post.br ?_
    exact Out.intro (X := [_]) (L' := [_, _]) (Res.t rfl Res.z) ⟨by rw [missAt, idx_none h1]; rfl, rfl⟩ (.refl _)
  · have h1 := g1
    try simp at h1
    refine TC.skipS ?_
    refine TC.seq ?_
    refine TC.region ?_
    obtain ⟨j, hj⟩ := idx_some (by simpa using h1)
    obtain ⟨x, hx, hxl, _⟩ := findIdx_map hj
    have he : (f.map encMiss)[j]? = some (encMiss x) := by rw [List.getElem?_map, hx]; rfl
    obtain ⟨b, c, rest, rfl, rfl, hJ, _, hc1, hc2⟩ := hs.at_ he
    rw [hj]
    simp only [List.length_map] at hJ
    refine .q (LD.move rfl) rfl rfl ?_
    refine .q (LD.nilCheck rfl) rfl rfl ?_
    refine .q (LD.fieldAddr rfl) rfl rfl ?_
    refine .q (LD.ld1 rfl m1 rfl) rfl rfl ?_
    refine .q (LD.move rfl) rfl rfl ?_
    refine .q (LD.indexAddr rfl rfl rfl (by simp only [idxOf, List.length_map]; omega)) rfl rfl ?_
    refine .q (LD.assign rfl) rfl rfl ?_
    refine TL.nilS ?_
    refine TC.ret ?_
    repeat first | refine Post.sr ?_ | refine Post.br ?_
    exact Out.intro (X := [_]) (L' := [_, _]) (Res.t rfl Res.z) ⟨by rw [missAt, hj]; simp only [pack, ptrO, idxOf, Int.toNat_natCast], rfl⟩ (.refl _)

open Mes in
theorem mOf_none {f : List Miss} {v : Value} {s : Frag} (hs : IsSl 162 15 (f.map encMiss) v s) {line : Int} (h : ptrO v 15 (missAt f line) = none) : missAt f line = none ∧ missOf f line = none := by
  cases hm : missAt f line with
  | none => exact ⟨rfl, find_none_idx hm⟩
  | some j =>
    obtain ⟨x, hx, _⟩ := findIdx_map hm
    obtain ⟨b, c, rest, rfl, _⟩ := hs.at_ (show (f.map encMiss)[j]? = some (encMiss x) by rw [List.getElem?_map, hx]; rfl)
    rw [hm] at h; cases h
open Mes in
theorem mOf_some {f : List Miss} {v : Value} {s : Frag} (hs : IsSl 162 15 (f.map encMiss) v s) {line : Int} (h : ¬ ptrO v 15 (missAt f line) = none) : ∃ j x b c rest, missAt f line = some j ∧ f[j]? = some x ∧ x.line = line ∧ missOf f line = some x ∧
    v = .slice (some ⟨b, 0, none⟩) (f.map encMiss).length c ∧ s = Foc b 162 (f.map encMiss) j (encMiss x) rest ∧ j < (f.map encMiss).length ∧ (f.map encMiss).length ≤ c ∧ rest.length = (c - (f.map encMiss).length) * 15 := by
  cases hm : missAt f line with
  | none => rw [hm] at h; exact absurd rfl h
  | some j =>
    obtain ⟨x, hx, hxl, hf⟩ := findIdx_map hm
    obtain ⟨b, c, rest, h1, h2, h3, _, h4, h5⟩ := hs.at_ (show (f.map encMiss)[j]? = some (encMiss x) by rw [List.getElem?_map, hx]; rfl)
    exact ⟨j, x, b, c, rest, rfl, hx, by simpa using hxl, hf, h1, h2, h3, h4, h5⟩
open Mes in
theorem mOf_isSome {f : List Miss} {v : Value} {s : Frag} (hs : IsSl 162 15 (f.map encMiss) v s) {line : Int} (h : ¬ ptrO v 15 (missAt f line) = none) : (missOf f line).isSome = true := by
  obtain ⟨j, x, b, c, rest, h1, h2, h3, h4, _⟩ := mOf_some hs h
  rw [h4]; rfl
open Mes in
def missOpen (room : Int) (f : List Miss) (line kind : Int) : List Miss × Int :=
  if kind ≠ 1 ∧ kind ≠ 2 then (f, 1) else if (missOf f line).isSome then (f, 6) else if (f.length : Int) = room then (f, 4) else (f ++ [Miss.new line kind], 0)
open Mes in
theorem upd_some {f : List Miss} {line : Int} {j : Nat} {x : Miss} (hj : missAt f line = some j) (hx : f[j]? = some x) (g : Miss → Miss) : (updMiss f line g).map encMiss = (f.map encMiss).set j (encMiss (g x)) := by
  simp only [updMiss, hj]; exact mod_set hx g encMiss
open Mes in
theorem upd_get {f : List Miss} {line : Int} {j : Nat} {x : Miss} (hj : missAt f line = some j) (hx : f[j]? = some x) (g : Miss → Miss) : (updMiss f line g).length = f.length ∧ (updMiss f line g)[j]? = some (g x) := by
  simp only [updMiss, hj]
  exact ⟨List.length_modify .., by rw [List.getElem?_modify]; simp [hx]⟩
/-- a file of which one miss was changed -/
theorem IsFile.upd {room : Int} {f f' : List Mes.Miss} {p b c j : Nat} {e rest : List Value} (hl : ∀ e ∈ f.map encMiss, e.length = 15) (h1 : (f.map encMiss).length ≤ c) (h2 : rest.length = (c - (f.map encMiss).length) * 15) (he : Nat.beq (llen e) 15 = true) (ho : ones e = true) (hf : f'.map encMiss = (f.map encMiss).set j e)
    (hd : Disj (FilP p room (.slice (some ⟨b, 0, none⟩) (f.map encMiss).length c)) (Foc b 162 (f.map encMiss) j e rest)) : IsFile room f' p (un [FilP p room (.slice (some ⟨b, 0, none⟩) (f.map encMiss).length c), Foc b 162 (f.map encMiss) j e rest]) :=
  ⟨_, _, by rw [hf]; exact IsSl.foc hl (encMiss_one f) h1 h2 (by rw [← llen_eq]; exact Nat.eq_of_beq_eq_true he) ho, hd, rfl⟩

open Mes in
theorem w_mOpen (room : Int) (f : List Miss) (p : Nat) (r : Frag) (hr : IsFile room f p r) (hlen : f.length ≤ 100000) (line kind : Int) : FnW Tryz.prog 89 [.pointer (some ⟨p, 0, none⟩), i line, i kind] r (fun u r' => u = i (missOpen room f line kind).2 ∧ IsFile room (missOpen room f line kind).1 p r') := by
  refine Fn.body Tryz.func89 rfl rfl rfl (Nat.le_of_ble_eq_true rfl) fun F => ?_
  obtain ⟨v, s, hs, hd, rfl⟩ := hr
  refine TC.unfold (pair_disj hd) ?_
  refine TC.seq ?_
  refine TC.region ?_
  refine .q (LD.assign rfl) rfl rfl ?_
  refine TL.nilS ?_
  refine TC.seq ?_
  refine TC.block ?_
  refine TC.seq ?_
  refine TC.region ?_
  refine .q (LD.move rfl) rfl rfl ?_
  refine .q (LD.neq rfl rfl) rfl rfl ?_
  refine .q (LD.move rfl) rfl rfl ?_
  refine TL.split rfl rfl rfl rfl (fun g1 => ?_) (fun g1 => ?_)
  · have h1 := g1
    try simp at h1
    refine .y (LD.move rfl) g1 rfl rfl rfl rfl ?_
    refine .y (LD.neq rfl rfl) g1 rfl rfl rfl rfl ?_
    refine .q (LD.pickT rfl g1 rfl) rfl rfl ?_
    refine .q (LD.assign rfl) rfl rfl ?_
    refine TL.nilS ?_
    refine TC.cond rfl (fun g2 => ?_) (fun g2 => ?_)
    · have h2 := g2
      try simp at h2
      refine TC.seq ?_
      refine TC.region ?_
      refine .q (LD.assign rfl) rfl rfl ?_
      refine TL.nilS ?_
      refine TC.ret ?_
      repeat first | refine Post.sr ?_ | refine Post.br ?_
      have e : missOpen room f line kind = (f, 1) := by unfold missOpen; rw [if_pos (by omega)]
      exact Out.introE (X := []) (L0 := [_, _]) (L' := [_]) (Res.t rfl Res.z) ⟨_, ⟨by rw [e]; rfl, _, _, by rw [e]; exact hs, hd, rfl⟩, rfl⟩ (.refl _) (Ent.fold _)
    · have h2 := g2
      try simp at h2
      refine TC.seq ?_
      refine TC.region ?_
      refine .q (LD.move rfl) rfl rfl ?_
      refine .q (LD.move rfl) rfl rfl ?_
      refine TL.clX (X := []) (pre := [_, _]) (CL.func rfl) (w_mOf room f p v s hs hlen line) rfl (Wants.un rfl) rfl ?_
      rintro _ _ ⟨rfl, rfl⟩
      refine .q (LD.ptrNeq rfl rfl Tryz.underlying260 (by first | exact .inr rfl | exact .inl rfl)) rfl rfl ?_
      refine .q (LD.assign rfl) rfl rfl ?_
      refine TL.nilS ?_
      refine TC.cond rfl (fun g3 => ?_) (fun g3 => ?_)
      · have h3 := g3
        try simp at h3
        refine TC.seq ?_
        refine TC.region ?_
        refine .q (LD.assign rfl) rfl rfl ?_
        refine TL.nilS ?_
        refine TC.ret ?_
        repeat first | refine Post.sr ?_ | refine Post.br ?_
        have e : missOpen room f line kind = (f, 6) := by unfold missOpen; rw [if_neg (by omega), if_pos (mOf_isSome hs (by assumption))]
        exact Out.introE (X := []) (L0 := [_, _]) (L' := [_]) (Res.t rfl Res.z) ⟨_, ⟨by rw [e]; rfl, _, _, by rw [e]; exact hs, hd, rfl⟩, rfl⟩ (.refl _) (Ent.fold _)
      · have h3 := g3
        try simp at h3
        refine TC.seq ?_
        refine TC.draw0 [0, 0, 0, 0, 0, 0, 0, 0, 0, 0, 0] [0, 1, 2, 3, 4, 5, 6, 7, 8, 9, 10] TryzI.mixed (by decide +kernel) (by decide) ?_
        obtain ⟨hmn, hmo⟩ := mOf_none hs (by assumption)
        obtain ⟨q, cap, rfl, hrd⟩ := hs.rd
        refine .q rfl rfl (LD.move rfl) rfl rfl ?_
        refine .q rfl rfl (LD.nilCheck rfl) rfl rfl ?_
        refine .q rfl rfl (LD.fieldAddr rfl) rfl rfl ?_
        refine .q rfl rfl (LD.ld1 rfl m0 rfl) rfl rfl ?_
        refine .q rfl rfl (LD.lenS rfl rfl Tryz.underlying143) rfl rfl ?_
        refine .q rfl rfl (LD.move rfl) rfl rfl ?_
        refine .q rfl rfl (LD.nilCheck rfl) rfl rfl ?_
        refine .q rfl rfl (LD.fieldAddr rfl) rfl rfl ?_
        refine .q rfl rfl (LD.ld1 rfl m0 rfl) rfl rfl ?_
        refine .q rfl rfl (LD.eql rfl rfl) rfl rfl ?_
        refine .q rfl rfl (LD.assign rfl) rfl rfl ?_
        refine TD.nilT ?_
        refine TC.cond rfl (fun g4 => ?_) (fun g4 => ?_)
        · have h4 := g4
          try simp at h4
          refine TC.seq ?_
          refine TC.region ?_
          refine .q (LD.assign rfl) rfl rfl ?_
          refine TL.nilS ?_
          refine TC.ret ?_
          repeat first | refine Post.sr ?_ | refine Post.br ?_
          have e : missOpen room f line kind = (f, 4) := by unfold missOpen; rw [if_neg (by omega), hmo, if_neg (by simp), if_pos (by simp_all)]
          exact Out.introE (X := []) (L0 := [_, _]) (L' := [_]) (Res.t rfl Res.z) ⟨_, ⟨by rw [e]; rfl, _, _, by rw [e]; exact hs, hd, rfl⟩, rfl⟩ (.refl _) (Ent.fold _)
        · have h4 := g4
          try simp at h4
          refine TC.skip ?_
          refine TC.seq ?_
          refine TC.region ?_
          refine .q (LD.move rfl) rfl rfl ?_
          refine .q (LD.move rfl) rfl rfl ?_
          refine .q (LD.nilCheck rfl) rfl rfl ?_
          refine .q (LD.fieldAddr rfl) rfl rfl ?_
          refine .q (LD.ld1 rfl m0 rfl) rfl rfl ?_
          refine .q (LD.move rfl) rfl rfl ?_
          refine .q (LD.move rfl) rfl rfl ?_
          refine .q (LD.bS rfl rfl (by repeat constructor)) rfl rfl ?_
          refine TL.nb (NB.bSl rfl rfl rfl (by repeat constructor)) (Wants.un rfl) rfl (fun b38 => ?_)
          refine TL.perm perm3' ?_
          refine TL.ex (EX.append rfl rfl rfl hs (Rd.lit rfl rfl) m1 (by simp only [List.length_map, List.length_singleton]; omega) (by simp only [List.length_map, List.length_singleton]; omega)) (Wants.un rfl) rfl ?_
          rintro v2 L2 ⟨s2, rfl, hs2⟩
          obtain ⟨q2, cap2, rfl, _⟩ := hs2.rd
          refine .q (LD.nilCheck rfl) rfl rfl ?_
          refine .q (LD.fieldAddr rfl) rfl rfl ?_
          refine .e (EF.st1 (i := 2) rfl rfl rfl rfl rfl (by repeat constructor)) rfl rfl ?_
          refine TL.nilS ?_
          refine TC.seq ?_
          refine TC.region ?_
          refine .q (LD.assign rfl) rfl rfl ?_
          refine TL.nilS ?_
          refine TC.dis fun hd2 => ?_
          refine TC.ret ?_
          repeat first | refine Post.sr ?_ | refine Post.br ?_
          have e : missOpen room f line kind = (f ++ [Miss.new line kind], 0) := by unfold missOpen; rw [if_neg (by omega), hmo, if_neg (by simp), if_neg (by simp_all)]
          refine Out.introE (X := [_]) (L0 := [_, _]) (L' := [_]) (Res.t rfl Res.z) ⟨_, ⟨by rw [e]; rfl, _, _, by rw [e, List.map_append]; exact hs2, dis_ij hd2 0 2 rfl rfl rfl |>.symm, rfl⟩, rfl⟩ perm3 (Ent.fold _)
  · have h1 := g1
    try simp at h1
    refine .s g1 rfl rfl rfl rfl ?_
    refine .q (LD.pickF rfl g1 rfl) rfl rfl ?_
    refine .q (LD.assign rfl) rfl rfl ?_
    refine TL.nilS ?_
    refine TC.condF rfl rfl ?_
    refine TC.seq ?_
    refine TC.region ?_
    refine .q (LD.move rfl) rfl rfl ?_
    refine .q (LD.move rfl) rfl rfl ?_
    refine TL.clX (X := []) (pre := [_, _]) (CL.func rfl) (w_mOf room f p v s hs hlen line) rfl (Wants.un rfl) rfl ?_
    rintro _ _ ⟨rfl, rfl⟩
    refine .q (LD.ptrNeq rfl rfl Tryz.underlying260 (by first | exact .inr rfl | exact .inl rfl)) rfl rfl ?_
    refine .q (LD.assign rfl) rfl rfl ?_
    refine TL.nilS ?_
    refine TC.cond rfl (fun g5 => ?_) (fun g5 => ?_)
    · have h5 := g5
      try simp at h5
      refine TC.seq ?_
      refine TC.region ?_
      refine .q (LD.assign rfl) rfl rfl ?_
      refine TL.nilS ?_
      refine TC.ret ?_
      repeat first | refine Post.sr ?_ | refine Post.br ?_
      have e : missOpen room f line kind = (f, 6) := by unfold missOpen; rw [if_neg (by omega), if_pos (mOf_isSome hs (by assumption))]
      exact Out.introE (X := []) (L0 := [_, _]) (L' := [_]) (Res.t rfl Res.z) ⟨_, ⟨by rw [e]; rfl, _, _, by rw [e]; exact hs, hd, rfl⟩, rfl⟩ (.refl _) (Ent.fold _)
    · have h5 := g5
      try simp at h5
      refine TC.seq ?_
      refine TC.draw0 [0, 0, 0, 0, 0, 0, 0, 0, 0, 0, 0] [0, 1, 2, 3, 4, 5, 6, 7, 8, 9, 10] TryzI.mixed (by decide +kernel) (by decide) ?_
      obtain ⟨hmn, hmo⟩ := mOf_none hs (by assumption)
      obtain ⟨q, cap, rfl, hrd⟩ := hs.rd
      refine .q rfl rfl (LD.move rfl) rfl rfl ?_
      refine .q rfl rfl (LD.nilCheck rfl) rfl rfl ?_
      refine .q rfl rfl (LD.fieldAddr rfl) rfl rfl ?_
      refine .q rfl rfl (LD.ld1 rfl m0 rfl) rfl rfl ?_
      refine .q rfl rfl (LD.lenS rfl rfl Tryz.underlying143) rfl rfl ?_
      refine .q rfl rfl (LD.move rfl) rfl rfl ?_
      refine .q rfl rfl (LD.nilCheck rfl) rfl rfl ?_
      refine .q rfl rfl (LD.fieldAddr rfl) rfl rfl ?_
      refine .q rfl rfl (LD.ld1 rfl m0 rfl) rfl rfl ?_
      refine .q rfl rfl (LD.eql rfl rfl) rfl rfl ?_
      refine .q rfl rfl (LD.assign rfl) rfl rfl ?_
      refine TD.nilT ?_
      refine TC.cond rfl (fun g6 => ?_) (fun g6 => ?_)
      · have h6 := g6
        try simp at h6
        refine TC.seq ?_
        refine TC.region ?_
        refine .q (LD.assign rfl) rfl rfl ?_
        refine TL.nilS ?_
        refine TC.ret ?_
        repeat first | refine Post.sr ?_ | refine Post.br ?_
        have e : missOpen room f line kind = (f, 4) := by unfold missOpen; rw [if_neg (by omega), hmo, if_neg (by simp), if_pos (by simp_all)]
        exact Out.introE (X := []) (L0 := [_, _]) (L' := [_]) (Res.t rfl Res.z) ⟨_, ⟨by rw [e]; rfl, _, _, by rw [e]; exact hs, hd, rfl⟩, rfl⟩ (.refl _) (Ent.fold _)
      · have h6 := g6
        try simp at h6
        refine TC.skip ?_
        refine TC.seq ?_
        refine TC.region ?_
        refine .q (LD.move rfl) rfl rfl ?_
        refine .q (LD.move rfl) rfl rfl ?_
        refine .q (LD.nilCheck rfl) rfl rfl ?_
        refine .q (LD.fieldAddr rfl) rfl rfl ?_
        refine .q (LD.ld1 rfl m0 rfl) rfl rfl ?_
        refine .q (LD.move rfl) rfl rfl ?_
        refine .q (LD.move rfl) rfl rfl ?_
        refine .q (LD.bS rfl rfl (by repeat constructor)) rfl rfl ?_
        refine TL.nb (NB.bSl rfl rfl rfl (by repeat constructor)) (Wants.un rfl) rfl (fun b38 => ?_)
        refine TL.perm perm3' ?_
        refine TL.ex (EX.append rfl rfl rfl hs (Rd.lit rfl rfl) m1 (by simp only [List.length_map, List.length_singleton]; omega) (by simp only [List.length_map, List.length_singleton]; omega)) (Wants.un rfl) rfl ?_
        rintro v2 L2 ⟨s2, rfl, hs2⟩
        obtain ⟨q2, cap2, rfl, _⟩ := hs2.rd
        refine .q (LD.nilCheck rfl) rfl rfl ?_
        refine .q (LD.fieldAddr rfl) rfl rfl ?_
        refine .e (EF.st1 (i := 2) rfl rfl rfl rfl rfl (by repeat constructor)) rfl rfl ?_
        refine TL.nilS ?_
        refine TC.seq ?_
        refine TC.region ?_
        refine .q (LD.assign rfl) rfl rfl ?_
        refine TL.nilS ?_
        refine TC.dis fun hd2 => ?_
        refine TC.ret ?_
        repeat first | refine Post.sr ?_ | refine Post.br ?_
        have e : missOpen room f line kind = (f ++ [Miss.new line kind], 0) := by unfold missOpen; rw [if_neg (by omega), hmo, if_neg (by simp), if_neg (by simp_all)]
        refine Out.introE (X := [_]) (L0 := [_, _]) (L' := [_]) (Res.t rfl Res.z) ⟨_, ⟨by rw [e]; rfl, _, _, by rw [e, List.map_append]; exact hs2, dis_ij hd2 0 2 rfl rfl rfl |>.symm, rfl⟩, rfl⟩ perm3 (Ent.fold _)
open Mes in
theorem w_mFits (b c j : Nat) (es : List (List Value)) (rest : List Value) (x : Miss) (hJ : j < es.length) (hl : ∀ e ∈ es, e.length = 15) (acks own : Int) : FnR Tryz.prog 207 [.pointer (some ⟨b, 0 + j * 15, none⟩), i acks, i own] (Foc b 162 es j (encMiss x) rest) (fun v => v = .bool (x.fits acks own)) := by
  refine Fn.body Tryz.func207 rfl rfl rfl (Nat.le_of_ble_eq_true rfl) fun F => ?_
  refine TC.seq ?_
  refine TC.region ?_
  refine .q (LD.assign rfl) rfl rfl ?_
  refine TL.nilS ?_
  refine TC.seq ?_
  refine TC.seq ?_
  refine TC.region ?_
  refine .q (LD.move rfl) rfl rfl ?_
  refine .q (LD.nilCheck rfl) rfl rfl ?_
  refine .q (LD.fieldAddr rfl) rfl rfl ?_
  refine .q (LD.f1 (J := j) (f := 2) rfl m0 (foc_same ..) rfl hJ hl rfl (by omega) rfl) rfl rfl ?_
  refine .q (LD.neq rfl rfl) rfl rfl ?_
  refine .q (LD.move rfl) rfl rfl ?_
  refine TL.split rfl rfl rfl rfl (fun g1 => ?_) (fun g1 => ?_)
  · have h1 := g1
    try simp at h1
    refine .y (LD.move rfl) g1 rfl rfl rfl rfl ?_
    refine .y (LD.move rfl) g1 rfl rfl rfl rfl ?_
    refine .y (LD.nilCheck rfl) g1 rfl rfl rfl rfl ?_
    refine .y (LD.fieldAddr rfl) g1 rfl rfl rfl rfl ?_
    refine .y (LD.f1 (J := j) (f := 3) rfl m0 (foc_same ..) rfl hJ hl rfl (by omega) rfl) g1 rfl rfl rfl rfl ?_
    refine .y (LD.lss rfl rfl) g1 rfl rfl rfl rfl ?_
    refine .q (LD.pickF rfl g1 rfl) rfl rfl ?_
    refine TL.nilS ?_
    refine TC.cond rfl (fun g2 => ?_) (fun g2 => ?_)
    · have h2 := g2
      try simp at h2
      refine TC.seq ?_
      refine TC.region ?_
      refine .q (LD.assign rfl) rfl rfl ?_
      refine TL.nilS ?_
      refine TC.ret ?_
      repeat first | refine Post.sr ?_ | refine Post.br ?_
      exact Out.intro (X := []) (L' := [_]) (Res.t rfl Res.z) ⟨by simp only [pack, Miss.fits]; congr 1; simp_all [beq_int], rfl⟩ (.refl _)
    · have h2 := g2
      try simp at h2
      refine TC.skipS ?_
      refine TC.seq ?_
      refine TC.seq ?_
      refine TC.region ?_
      refine .q (LD.move rfl) rfl rfl ?_
      refine .q (LD.nilCheck rfl) rfl rfl ?_
      refine .q (LD.fieldAddr rfl) rfl rfl ?_
      refine .q (LD.f1 (J := j) (f := 1) rfl m0 (foc_same ..) rfl hJ hl rfl (by omega) rfl) rfl rfl ?_
      refine .q (LD.eql rfl rfl) rfl rfl ?_
      refine TL.nilS ?_
      refine TC.cond rfl (fun g3 => ?_) (fun g3 => ?_)
      · have h3 := g3
        try simp at h3
        refine TC.seq ?_
        refine TC.region ?_
        refine .q (LD.move rfl) rfl rfl ?_
        refine .q (LD.eql rfl rfl) rfl rfl ?_
        refine .q (LD.assign rfl) rfl rfl ?_
        refine TL.nilS ?_
        refine TC.ret ?_
        repeat first | refine Post.sr ?_ | refine Post.br ?_
        exact Out.intro (X := []) (L' := [_]) (Res.t rfl Res.z) ⟨by simp only [pack, Miss.fits]; congr 1; simp_all [beq_int], rfl⟩ (.refl _)
      · have h3 := g3
        try simp at h3
        refine TC.skipS ?_
        refine TC.seq ?_
        refine TC.region ?_
        refine .q (LD.move rfl) rfl rfl ?_
        refine .q (LD.eql rfl rfl) rfl rfl ?_
        refine .q (LD.move rfl) rfl rfl ?_
        refine TL.split rfl rfl rfl rfl (fun g4 => ?_) (fun g4 => ?_)
        · have h4 := g4
          try simp at h4
          refine .y (LD.move rfl) g4 rfl rfl rfl rfl ?_
          refine .y (LD.eql rfl rfl) g4 rfl rfl rfl rfl ?_
          refine .y (LD.move rfl) g4 rfl rfl rfl rfl ?_
          refine TL.split rfl rfl rfl rfl (fun g5 => ?_) (fun g5 => ?_)
          · have h5 := g5
            try simp at h5
            refine .y (LD.move rfl) g5 rfl rfl rfl rfl ?_
            refine .y (LD.eql rfl rfl) g5 rfl rfl rfl rfl ?_
            refine .y (LD.pickF rfl g5 rfl) g4 rfl rfl rfl rfl ?_
            refine .q (LD.pickT rfl g4 rfl) rfl rfl ?_
            refine .q (LD.assign rfl) rfl rfl ?_
            refine TL.nilS ?_
            refine TC.ret ?_
            repeat first | refine Post.sr ?_ | refine Post.br ?_
            exact Out.intro (X := []) (L' := [_]) (Res.t rfl Res.z) ⟨by simp only [pack, Miss.fits]; congr 1; simp_all [beq_int], rfl⟩ (.refl _)
          · have h5 := g5
            try simp at h5
            refine .s g5 rfl rfl rfl rfl ?_
            refine .y (LD.pickT rfl g5 rfl) g4 rfl rfl rfl rfl ?_
            refine .q (LD.pickT rfl g4 rfl) rfl rfl ?_
            refine .q (LD.assign rfl) rfl rfl ?_
            refine TL.nilS ?_
            refine TC.ret ?_
            repeat first | refine Post.sr ?_ | refine Post.br ?_
            exact Out.intro (X := []) (L' := [_]) (Res.t rfl Res.z) ⟨by simp only [pack, Miss.fits]; congr 1; simp_all [beq_int], rfl⟩ (.refl _)
        · have h4 := g4
          try simp at h4
          refine .s g4 rfl rfl rfl rfl ?_
          refine .s g4 rfl rfl rfl rfl ?_
          refine .un rfl rfl rfl rfl ?_
          refine .un rfl rfl rfl rfl ?_
          refine .s g4 rfl rfl rfl rfl ?_
          refine .q (LD.pickF rfl g4 rfl) rfl rfl ?_
          refine .q (LD.assign rfl) rfl rfl ?_
          refine TL.nilS ?_
          refine TC.ret ?_
          repeat first | refine Post.sr ?_ | refine Post.br ?_
          exact Out.intro (X := []) (L' := [_]) (Res.t rfl Res.z) ⟨by simp only [pack, Miss.fits]; congr 1; simp_all [beq_int], rfl⟩ (.refl _)
  · have h1 := g1
    try simp at h1
    refine .s g1 rfl rfl rfl rfl ?_
    refine .s g1 rfl rfl rfl rfl ?_
    refine .s g1 rfl rfl rfl rfl ?_
    refine .s g1 rfl rfl rfl rfl ?_
    refine .s g1 rfl rfl rfl rfl ?_
    refine .q (LD.pickT rfl g1 rfl) rfl rfl ?_
    refine TL.nilS ?_
    refine TC.condT rfl rfl ?_
    refine TC.seq ?_
    refine TC.region ?_
    refine .q (LD.assign rfl) rfl rfl ?_
    refine TL.nilS ?_
    refine TC.ret ?_
    repeat first | refine Post.sr ?_ | refine Post.br ?_
    exact Out.intro (X := []) (L' := [_]) (Res.t rfl Res.z) ⟨by simp only [pack, Miss.fits]; congr 1; simp_all [beq_int], rfl⟩ (.refl _)
open Mes in
theorem w_mData (room : Int) (f : List Miss) (p : Nat) (r : Frag) (hr : IsFile room f p r) (hlen : f.length ≤ 100000) (line acks own : Int) (ws : Words) : FnW Tryz.prog 160 [.pointer (some ⟨p, 0, none⟩), i line, i acks, i own, .agg (encW ws).toArray] r (fun u r' => u = i (missData f line acks own ws).2 ∧ IsFile room (missData f line acks own ws).1 p r') := by
  refine Fn.body Tryz.func160 rfl rfl rfl (Nat.le_of_ble_eq_true rfl) fun F => ?_
  obtain ⟨v, s, hs, hd, rfl⟩ := hr
  refine TC.unfold (pair_disj hd) ?_
  refine TC.seq ?_
  refine TC.region ?_
  refine TL.nb (NB.boxA rfl) (Wants.un rfl) rfl (fun b9 => ?_)
  refine .q (LD.assign rfl) rfl rfl ?_
  refine TL.nilS ?_
  refine TC.seq ?_
  refine TC.region ?_
  refine .q (LD.move rfl) rfl rfl ?_
  refine .q (LD.move rfl) rfl rfl ?_
  refine TL.clX (X := [_]) (pre := [_, _]) (CL.func rfl) (w_mOf room f p v s hs hlen line) rfl (Wants.un rfl) rfl ?_
  rintro _ _ ⟨rfl, rfl⟩
  refine .q (LD.assign rfl) rfl rfl ?_
  refine TL.nilS ?_
  refine TC.seq ?_
  refine TC.block ?_
  refine TC.seq ?_
  refine TC.region ?_
  refine .q (LD.move rfl) rfl rfl ?_
  refine .q (LD.ptrEql rfl rfl Tryz.underlying260 (by first | exact .inr rfl | exact .inl rfl)) rfl rfl ?_
  refine .q (LD.assign rfl) rfl rfl ?_
  refine TL.nilS ?_
  refine TC.cond rfl (fun g1 => ?_) (fun g1 => ?_)
  · have h1 := g1
    try simp at h1
    refine TC.seq ?_
    refine TC.region ?_
    refine .q (LD.assign rfl) rfl rfl ?_
    refine TL.nilS ?_
    refine TC.ret ?_
    repeat first | refine Post.sr ?_ | refine Post.br ?_
    have e : missData f line acks own ws = (f, 5) := by unfold missData; rw [(mOf_none hs (by assumption)).2]
    exact Out.introE (X := [_]) (L0 := [_, _]) (L' := [_]) (Res.t rfl Res.z) ⟨_, ⟨by rw [e]; rfl, _, _, by rw [e]; exact hs, hd, rfl⟩, rfl⟩ (.refl _) (Ent.fold _)
  · have h1 := g1
    try simp at h1
    refine TC.seq ?_
    refine TC.region ?_
    obtain ⟨j, x, b, c, rest, hj, hx, hxl, hmo, rfl, rfl, hJ, hc1, hc2⟩ := mOf_some hs (by assumption)
    have hl := encMiss_len f
    have hpe : ptrO (.slice (some ⟨b, 0, none⟩) (f.map encMiss).length c) 15 (missAt f line) = some ⟨b, 0 + j * 15, none⟩ := by rw [hj]; rfl
    rw [hpe]
    refine .q (LD.move rfl) rfl rfl ?_
    refine .q (LD.move rfl) rfl rfl ?_
    refine .q (LD.move rfl) rfl rfl ?_
    refine TL.cr (CL.func rfl) (w_mFits b c j _ rest x hJ hl acks own) (by first | exact .head _ | exact .tail _ (.head _) | exact .tail _ (.tail _ (.head _)) | exact .tail _ (.tail _ (.tail _ (.head _))) | exact .tail _ (.tail _ (.tail _ (.tail _ (.head _)))) | exact .tail _ (.tail _ (.tail _ (.tail _ (.tail _ (.head _))))) | exact .tail _ (.tail _ (.tail _ (.tail _ (.tail _ (.tail _ (.head _)))))) | exact .tail _ (.tail _ (.tail _ (.tail _ (.tail _ (.tail _ (.tail _ (.head _))))))) | exact .tail _ (.tail _ (.tail _ (.tail _ (.tail _ (.tail _ (.tail _ (.tail _ (.head _)))))))) | exact .tail _ (.tail _ (.tail _ (.tail _ (.tail _ (.tail _ (.tail _ (.tail _ (.tail _ (.head _))))))))) | exact .tail _ (.tail _ (.tail _ (.tail _ (.tail _ (.tail _ (.tail _ (.tail _ (.tail _ (.tail _ (.head _)))))))))) | exact .tail _ (.tail _ (.tail _ (.tail _ (.tail _ (.tail _ (.tail _ (.tail _ (.tail _ (.tail _ (.tail _ (.head _)))))))))))) (Wants.un rfl) rfl ?_
    rintro _ rfl
    refine .q (LD.not rfl) rfl rfl ?_
    refine .q (LD.assign rfl) rfl rfl ?_
    refine TL.nilS ?_
    refine TC.cond rfl (fun g2 => ?_) (fun g2 => ?_)
    · have h2 := g2
      try simp at h2
      refine TC.seq ?_
      refine TC.region ?_
      refine .q (LD.assign rfl) rfl rfl ?_
      refine TL.nilS ?_
      refine TC.ret ?_
      repeat first | refine Post.sr ?_ | refine Post.br ?_
      have e : missData f line acks own ws = (f, 7) := by unfold missData; rw [hmo]; simp_all
      exact Out.introE (X := [_]) (L0 := [_, _]) (L' := [_]) (Res.t rfl Res.z) ⟨_, ⟨by rw [e]; rfl, _, _, by rw [e]; exact hs, hd, rfl⟩, rfl⟩ (.refl _) (Ent.fold _)
    · have h2 := g2
      try simp at h2
      refine TC.skip ?_
      refine TC.seq ?_
      refine TC.drawX (R := [_]) [0, 0, 0, 0, 0, 0, 0, 0, 2, 0, 0, 2, 0, 0, 2] [0, 1, 2, 3, 4, 5, 6, 7, 8, 9, 10, 11, 12, 13, 14] TryzI.mixed (by decide +kernel) (no4 (by decide)) rfl ?_
      refine .q rfl rfl (LD.move rfl) rfl rfl ?_
      refine .q rfl rfl (LD.move rfl) rfl rfl ?_
      refine .q rfl rfl (LD.move rfl) rfl rfl ?_
      refine .q rfl rfl (LD.move rfl) rfl rfl ?_
      refine .q rfl rfl (LD.move rfl) rfl rfl ?_
      refine .q rfl rfl (LD.ldA rfl m0 (by repeat constructor) rfl) rfl rfl ?_
      refine .q rfl rfl (LD.nilCheck rfl) rfl rfl ?_
      refine .q rfl rfl (LD.fieldAddr rfl) rfl rfl ?_
      refine TD.efF (j := 1) rfl rfl (EF.f1 (J := j) (f := 2) (i := 0) rfl rfl rfl (by omega) hJ hl rfl rfl (by repeat constructor) rfl) rfl (Wants.un rfl) rfl ?_
      refine .q rfl rfl (LD.nilCheck rfl) rfl rfl ?_
      refine .q rfl rfl (LD.fieldAddr rfl) rfl rfl ?_
      refine TD.efT (j := 1) rfl rfl (EF.f1 (J := j) (f := 4) (i := 0) rfl rfl rfl (by omega) hJ hl rfl rfl (by repeat constructor) rfl) rfl (Wants.un rfl) rfl ?_
      refine .q rfl rfl (LD.nilCheck rfl) rfl rfl ?_
      refine .q rfl rfl (LD.fieldAddr rfl) rfl rfl ?_
      refine TD.efT (j := 1) rfl rfl (EF.fA (J := j) (f := 5) (i := 0) rfl rfl rfl rfl (by omega) hJ hl rfl rfl (by repeat constructor) rfl) rfl (Wants.un rfl) rfl ?_
      refine TD.nilX ?_
      refine TC.seq ?_
      refine TC.region ?_
      refine .q (LD.assign rfl) rfl rfl ?_
      refine TL.nilS ?_
      refine TC.dis fun hd2 => ?_
      refine TC.ret ?_
      repeat first | refine Post.sr ?_ | refine Post.br ?_
      have e : missData f line acks own ws = (updMiss f line fun m => { m with needs := acks, own := own, words := ws }, 0) := by unfold missData; rw [hmo]; simp_all
      exact Out.introE (X := [_]) (L0 := [_, _]) (L' := [_]) (Res.t rfl Res.z) ⟨_, ⟨by rw [e]; rfl, by rw [e]; exact IsFile.upd hl hc1 hc2 rfl rfl (upd_some hj hx _) (dis_ij hd2 1 2 rfl rfl rfl)⟩, rfl⟩ (.refl _) (Ent.fold _)
open Mes in
theorem w_mAck (room : Int) (f : List Miss) (p : Nat) (r : Frag) (hr : IsFile room f p r) (hlen : f.length ≤ 100000) (line : Int) (hgot : ∀ x, missOf f line = some x → -1000000000 ≤ x.got ∧ x.got ≤ 1000000000) : FnW Tryz.prog 162 [.pointer (some ⟨p, 0, none⟩), i line] r (fun u r' => u = i (missAck f line).2 ∧ IsFile room (missAck f line).1 p r') := by
  refine Fn.body Tryz.func162 rfl rfl rfl (Nat.le_of_ble_eq_true rfl) fun F => ?_
  obtain ⟨v, s, hs, hd, rfl⟩ := hr
  refine TC.unfold (pair_disj hd) ?_
  refine TC.seq ?_
  refine TC.region ?_
  refine .q (LD.assign rfl) rfl rfl ?_
  refine TL.nilS ?_
  refine TC.seq ?_
  refine TC.region ?_
  refine .q (LD.move rfl) rfl rfl ?_
  refine .q (LD.move rfl) rfl rfl ?_
  refine TL.clX (X := []) (pre := [_, _]) (CL.func rfl) (w_mOf room f p v s hs hlen line) rfl (Wants.un rfl) rfl ?_
  rintro _ _ ⟨rfl, rfl⟩
  refine .q (LD.assign rfl) rfl rfl ?_
  refine TL.nilS ?_
  refine TC.seq ?_
  refine TC.block ?_
  refine TC.seq ?_
  refine TC.region ?_
  refine .q (LD.move rfl) rfl rfl ?_
  refine .q (LD.ptrEql rfl rfl Tryz.underlying260 (by first | exact .inr rfl | exact .inl rfl)) rfl rfl ?_
  refine .q (LD.assign rfl) rfl rfl ?_
  refine TL.nilS ?_
  refine TC.cond rfl (fun g1 => ?_) (fun g1 => ?_)
  · have h1 := g1
    try simp at h1
    refine TC.seq ?_
    refine TC.region ?_
    refine .q (LD.assign rfl) rfl rfl ?_
    refine TL.nilS ?_
    refine TC.ret ?_
    repeat first | refine Post.sr ?_ | refine Post.br ?_
    have e : missAck f line = (f, 5) := by unfold missAck; rw [(mOf_none hs (by assumption)).2]
    exact Out.introE (X := []) (L0 := [_, _]) (L' := [_]) (Res.t rfl Res.z) ⟨_, ⟨by rw [e]; rfl, _, _, by rw [e]; exact hs, hd, rfl⟩, rfl⟩ (.refl _) (Ent.fold _)
  · have h1 := g1
    try simp at h1
    refine TC.seq ?_
    refine TC.draw0 [0, 0, 0, 0, 0, 0, 0, 0, 0, 0, 0, 0, 0, 0, 0, 0, 0] [0, 1, 2, 3, 4, 5, 6, 7, 8, 9, 10, 11, 12, 13, 14, 15, 16] TryzI.mixed (by decide +kernel) (by decide) ?_
    obtain ⟨j, x, b, c, rest, hj, hx, hxl, hmo, rfl, rfl, hJ, hc1, hc2⟩ := mOf_some hs (by assumption)
    have hl := encMiss_len f
    have hpe : ptrO (.slice (some ⟨b, 0, none⟩) (f.map encMiss).length c) 15 (missAt f line) = some ⟨b, 0 + j * 15, none⟩ := by rw [hj]; rfl
    rw [hpe]
    refine .q rfl rfl (LD.move rfl) rfl rfl ?_
    refine .q rfl rfl (LD.nilCheck rfl) rfl rfl ?_
    refine .q rfl rfl (LD.fieldAddr rfl) rfl rfl ?_
    refine .q rfl rfl (LD.f1 (J := j) (f := 1) rfl m1 (foc_same ..) rfl hJ hl rfl (by omega) rfl) rfl rfl ?_
    refine .q rfl rfl (LD.eql rfl rfl) rfl rfl ?_
    refine .q rfl rfl (LD.move rfl) rfl rfl ?_
    refine TD.split rfl rfl rfl rfl rfl (fun g2 => ?_) (fun g2 => ?_)
    · have h2 := g2
      try simp at h2
      refine .y rfl rfl (LD.move rfl) g2 rfl rfl rfl rfl ?_
      refine .y rfl rfl (LD.nilCheck rfl) g2 rfl rfl rfl rfl ?_
      refine .y rfl rfl (LD.fieldAddr rfl) g2 rfl rfl rfl rfl ?_
      refine .y rfl rfl (LD.f1 (J := j) (f := 2) rfl m1 (foc_same ..) rfl hJ hl rfl (by omega) rfl) g2 rfl rfl rfl rfl ?_
      refine .y rfl rfl (LD.move rfl) g2 rfl rfl rfl rfl ?_
      refine .y rfl rfl (LD.nilCheck rfl) g2 rfl rfl rfl rfl ?_
      refine .y rfl rfl (LD.fieldAddr rfl) g2 rfl rfl rfl rfl ?_
      refine .y rfl rfl (LD.f1 (J := j) (f := 3) rfl m1 (foc_same ..) rfl hJ hl rfl (by omega) rfl) g2 rfl rfl rfl rfl ?_
      refine .y rfl rfl (LD.eql rfl rfl) g2 rfl rfl rfl rfl ?_
      refine .q rfl rfl (LD.pickF rfl g2 rfl) rfl rfl ?_
      refine .q rfl rfl (LD.assign rfl) rfl rfl ?_
      refine TD.nilT ?_
      refine TC.cond rfl (fun g3 => ?_) (fun g3 => ?_)
      · have h3 := g3
        try simp at h3
        refine TC.seq ?_
        refine TC.region ?_
        refine .q (LD.assign rfl) rfl rfl ?_
        refine TL.nilS ?_
        refine TC.ret ?_
        repeat first | refine Post.sr ?_ | refine Post.br ?_
        have e : missAck f line = (f, 7) := by unfold missAck; rw [hmo]; simp_all
        exact Out.introE (X := []) (L0 := [_, _]) (L' := [_]) (Res.t rfl Res.z) ⟨_, ⟨by rw [e]; rfl, _, _, by rw [e]; exact hs, hd, rfl⟩, rfl⟩ (.refl _) (Ent.fold _)
      · have h3 := g3
        try simp at h3
        refine TC.skip ?_
        refine TC.seq ?_
        refine TC.region ?_
        refine .q (LD.move rfl) rfl rfl ?_
        refine .q (LD.nilCheck rfl) rfl rfl ?_
        refine .q (LD.fieldAddr rfl) rfl rfl ?_
        refine .q (LD.f1 (J := j) (f := 3) rfl m1 (foc_same ..) rfl hJ hl rfl (by omega) rfl) rfl rfl ?_
        have hg := hgot x hmo
        refine .q (LD.add rfl rfl (by omega)) rfl rfl ?_
        refine .q (LD.nilCheck rfl) rfl rfl ?_
        refine .q (LD.fieldAddr rfl) rfl rfl ?_
        refine .e (EF.f1 (J := j) (f := 3) (i := 1) rfl rfl rfl (by omega) hJ hl rfl rfl (by repeat constructor) rfl) rfl rfl ?_
        refine TL.nilS ?_
        refine TC.seq ?_
        refine TC.region ?_
        refine .q (LD.assign rfl) rfl rfl ?_
        refine TL.nilS ?_
        refine TC.dis fun hd2 => ?_
        refine TC.ret ?_
        repeat first | refine Post.sr ?_ | refine Post.br ?_
        have e : missAck f line = (updMiss f line fun m => { m with got := m.got + 1 }, 0) := by unfold missAck; rw [hmo]; simp_all
        exact Out.introE (X := []) (L0 := [_, _]) (L' := [_]) (Res.t rfl Res.z) ⟨_, ⟨by rw [e]; rfl, by rw [e]; exact IsFile.upd hl hc1 hc2 rfl rfl (upd_some hj hx _) (dis_ij hd2 0 1 rfl rfl rfl)⟩, rfl⟩ (.refl _) (Ent.fold _)
    · have h2 := g2
      try simp at h2
      refine .s rfl g2 rfl rfl rfl rfl ?_
      refine .s rfl g2 rfl rfl rfl rfl ?_
      refine .s rfl g2 rfl rfl rfl rfl ?_
      refine .s rfl g2 rfl rfl rfl rfl ?_
      refine .s rfl g2 rfl rfl rfl rfl ?_
      refine .s rfl g2 rfl rfl rfl rfl ?_
      refine .s rfl g2 rfl rfl rfl rfl ?_
      refine .s rfl g2 rfl rfl rfl rfl ?_
      refine .q rfl rfl (LD.pickT rfl g2 rfl) rfl rfl ?_
      refine .q rfl rfl (LD.assign rfl) rfl rfl ?_
      refine TD.nilT ?_
      refine TC.condT rfl rfl ?_
      refine TC.seq ?_
      refine TC.region ?_
      refine .q (LD.assign rfl) rfl rfl ?_
      refine TL.nilS ?_
      refine TC.dis fun hd2 => ?_
      refine TC.ret ?_
      repeat first | refine Post.sr ?_ | refine Post.br ?_
      have e : missAck f line = (f, 7) := by unfold missAck; rw [hmo]; simp_all
      exact Out.introE (X := []) (L0 := [_, _]) (L' := [_]) (Res.t rfl Res.z) ⟨_, ⟨by rw [e]; rfl, _, _, by rw [e]; exact hs, hd, rfl⟩, rfl⟩ (.refl _) (Ent.fold _)

open Mes in
theorem mOf_ne {f : List Miss} {v : Value} {s : Frag} (hs : IsSl 162 15 (f.map encMiss) v s) {line : Int} (h : (missOf f line).isSome = true) : ¬ ptrO v 15 (missAt f line) = none := fun h0 => by
  rw [(mOf_none hs h0).2] at h; cases h
open Mes in
theorem mAt_some {f : List Miss} {v : Value} {s : Frag} (hs : IsSl 162 15 (f.map encMiss) v s) {P : Miss → Bool} {j : Nat} (hj : f.findIdx? P = some j) : ∃ x b c rest, f[j]? = some x ∧ P x = true ∧ f.find? P = some x ∧
    v = .slice (some ⟨b, 0, none⟩) (f.map encMiss).length c ∧ s = Foc b 162 (f.map encMiss) j (encMiss x) rest ∧ j < (f.map encMiss).length ∧ (f.map encMiss).length ≤ c ∧ rest.length = (c - (f.map encMiss).length) * 15 := by
  obtain ⟨x, hx, hxl, hf⟩ := findIdx_map hj
  obtain ⟨b, c, rest, h1, h2, h3, _, h4, h5⟩ := hs.at_ (show (f.map encMiss)[j]? = some (encMiss x) by rw [List.getElem?_map, hx]; rfl)
  exact ⟨x, b, c, rest, hx, hxl, hf, h1, h2, h3, h4, h5⟩
open Mes in
theorem missData_len (f : List Miss) (line acks own : Int) (ws : Words) : (missData f line acks own ws).1.length = f.length := by
  unfold missData
  split
  · rfl
  · split
    · exact updMiss_length
    · rfl
open Mes in
theorem missData_some {f : List Miss} {line acks own : Int} {ws : Words} (h : (missData f line acks own ws).2 = 0) : (missOf (missData f line acks own ws).1 line).isSome = true := by
  unfold missData at h ⊢
  split
  · rename_i h0; rw [h0] at h; simp at h
  · rename_i x h0
    rw [h0] at h
    simp only at h ⊢
    split
    · dsimp only; rw [missOf_upd (by intro _; rfl), if_pos rfl, h0]; rfl
    · rename_i h1; simp [h1] at h
open Mes in
def oweV (f : List Miss) (line : Int) : Value := .tuple #[.agg (encMiss ((missOwe f line).2.getD Miss.none)).toArray, .bool (missOwe f line).2.isSome]
open Mes in
def closeE (f : List Miss) (line : Int) : Int := match missOf f line with | Option.none => 5 | some m => if m.owes then 0 else 7
open Mes in
def owingV (f : List Miss) : Value := .tuple #[i ((missOwing f).getD 0), .bool (missOwing f).isSome]
open Mes in
def mgetV (f : List Miss) (line : Int) : Value := .tuple #[.agg (encMiss ((missOf f line).getD Miss.none)).toArray, .bool (missOf f line).isSome]

open Mes in
theorem w_mGrant (room : Int) (f : List Miss) (p : Nat) (r : Frag) (hr : IsFile room f p r) (hlen : f.length ≤ 100000) (line acks : Int) : FnW Tryz.prog 161 [.pointer (some ⟨p, 0, none⟩), i line, i acks] r (fun u r' => u = i (missGrant f line acks).2 ∧ IsFile room (missGrant f line acks).1 p r') := by
  refine Fn.body Tryz.func161 rfl rfl rfl (Nat.le_of_ble_eq_true rfl) fun F => ?_
  skip
  refine TC.seq ?_
  refine TC.region ?_
  refine .q (LD.assign rfl) rfl rfl ?_
  refine TL.nilS ?_
  refine TC.seq ?_
  refine TC.region ?_
  refine .q (LD.move rfl) rfl rfl ?_
  refine .q (LD.move rfl) rfl rfl ?_
  refine .q (LD.move rfl) rfl rfl ?_
  refine .q (LD.bA rfl rfl (by repeat constructor)) rfl rfl ?_
  refine TL.cw (CL.func rfl) (w_mData room f p r hr hlen line acks 4 Mes.Words.zero) (i := 0) rfl (Wants.un rfl) rfl ?_
  rintro _ r2 ⟨rfl, hr2⟩
  refine .q (LD.assign rfl) rfl rfl ?_
  refine TL.nilS ?_
  refine TC.seq ?_
  refine TC.seq ?_
  refine TC.region ?_
  refine .q (LD.move rfl) rfl rfl ?_
  refine .q (LD.eql rfl rfl) rfl rfl ?_
  refine TL.nilS ?_
  refine TC.cond rfl (fun g1 => ?_) (fun g1 => ?_)
  · have h1 := g1
    try simp at h1
    refine TC.region ?_
    have hsome := missData_some (by assumption)
    have hlen2 := missData_len f line acks 4 Words.zero
    obtain ⟨f', hf'⟩ : ∃ f', f' = (missData f line acks 4 Words.zero).1 := ⟨_, rfl⟩
    rw [← hf'] at hr2 hsome hlen2
    obtain ⟨v, s, hs, hd, rfl⟩ := hr2
    refine TL.unfoldX (X := []) (m := [_, _]) rfl (pair_disj hd) ?_
    have hlen3 : f'.length ≤ 100000 := by omega
    refine .q (LD.move rfl) rfl rfl ?_
    refine .q (LD.move rfl) rfl rfl ?_
    refine TL.clX (X := []) (pre := [_, _]) (CL.func rfl) (w_mOf room f' p v s hs hlen3 line) rfl (Wants.un rfl) rfl ?_
    rintro _ _ ⟨rfl, rfl⟩
    have hne := mOf_ne hs hsome
    obtain ⟨j, x, b, c, rest, hj, hx, hxl, hmo, rfl, rfl, hJ, hc1, hc2⟩ := mOf_some hs (by assumption)
    have hl := encMiss_len f'
    have hpe : ptrO (.slice (some ⟨b, 0, none⟩) (f'.map encMiss).length c) 15 (missAt f' line) = some ⟨b, 0 + j * 15, none⟩ := by rw [hj]; rfl
    rw [hpe]
    refine .q (LD.nilCheck rfl) rfl rfl ?_
    refine .q (LD.fieldAddr rfl) rfl rfl ?_
    refine .e (EF.f1 (J := j) (f := 13) (i := 1) rfl rfl rfl (by omega) hJ hl rfl rfl (by repeat constructor) rfl) rfl rfl ?_
    refine TL.nilS ?_
    refine TC.seq ?_
    refine TC.region ?_
    refine .q (LD.move rfl) rfl rfl ?_
    refine .q (LD.assign rfl) rfl rfl ?_
    refine TL.nilS ?_
    refine TC.dis fun hd2 => ?_
    refine TC.ret ?_
    repeat first | refine Post.sr ?_ | refine Post.br ?_
    have e : missGrant f line acks = (updMiss f' line fun m => { m with granted := true }, 0) := by
      have h0 : (missData f line acks 4 Words.zero).2 = 0 := by assumption
      unfold missGrant; rw [show missData f line acks 4 Words.zero = (f', 0) from by rw [hf', ← h0]]; rfl
    exact Out.introE (X := []) (L0 := [_, _]) (L' := [_]) (Res.t rfl Res.z) ⟨_, ⟨by rw [e]; simp_all [pack], by rw [e]; exact IsFile.upd hl hc1 hc2 rfl rfl (upd_some hj hx _) (dis_ij hd2 0 1 rfl rfl rfl)⟩, rfl⟩ (.refl _) (Ent.fold _)
  · have h1 := g1
    try simp at h1
    refine TC.skipS ?_
    refine TC.seq ?_
    refine TC.region ?_
    refine .q (LD.move rfl) rfl rfl ?_
    refine .q (LD.assign rfl) rfl rfl ?_
    refine TL.nilS ?_
    refine TC.ret ?_
    repeat first | refine Post.sr ?_ | refine Post.br ?_
    have e : missGrant f line acks = missData f line acks 4 Words.zero := by
      have h0 : ¬ (missData f line acks 4 Words.zero).2 = 0 := by assumption
      unfold missGrant; rcases hq : missData f line acks 4 Words.zero with ⟨a, b⟩; rw [hq] at h0; simp_all
    exact Out.intro (X := []) (L' := [_]) (Res.t rfl Res.z) ⟨_, ⟨by rw [e]; rfl, by rw [e]; exact hr2⟩, rfl⟩ (.refl _)
open Mes in
theorem w_mOwe (room : Int) (f : List Miss) (p : Nat) (r : Frag) (hr : IsFile room f p r) (hlen : f.length ≤ 100000) (line : Int) : FnW Tryz.prog 206 [.pointer (some ⟨p, 0, none⟩), i line] r (fun u r' => u = oweV f line ∧ IsFile room (missOwe f line).1 p r') := by
  refine Fn.body Tryz.func206 rfl rfl rfl (Nat.le_of_ble_eq_true rfl) fun F => ?_
  obtain ⟨v, s, hs, hd, rfl⟩ := hr
  refine TC.unfold (pair_disj hd) ?_
  refine TC.seq ?_
  refine TC.region ?_
  refine TL.nb NB.alloc (Wants.un rfl) rfl (fun b4 => ?_)
  refine .q (LD.assign rfl) rfl rfl ?_
  refine TL.nilS ?_
  refine TC.seq ?_
  refine TC.region ?_
  refine .q (LD.move rfl) rfl rfl ?_
  refine .q (LD.move rfl) rfl rfl ?_
  refine TL.clX (X := [_]) (pre := [_, _]) (CL.func rfl) (w_mOf room f p v s hs hlen line) rfl (Wants.un rfl) rfl ?_
  rintro _ _ ⟨rfl, rfl⟩
  refine .q (LD.assign rfl) rfl rfl ?_
  refine TL.nilS ?_
  refine TC.seq ?_
  refine TC.seq ?_
  refine TC.draw0 [0, 0, 0, 0, 0, 0, 0, 0, 0, 0, 0, 0, 0, 0, 0, 0, 0, 0, 0] [0, 1, 2, 3, 4, 5, 6, 7, 8, 9, 10, 11, 12, 13, 14, 15, 16, 17, 18] TryzI.mixed (by decide +kernel) (by decide) ?_
  refine .q rfl rfl (LD.move rfl) rfl rfl ?_
  refine .q rfl rfl (LD.ptrEql rfl rfl Tryz.underlying260 (by first | exact .inr rfl | exact .inl rfl)) rfl rfl ?_
  refine .q rfl rfl (LD.move rfl) rfl rfl ?_
  refine TD.split rfl rfl rfl rfl rfl (fun g1 => ?_) (fun g1 => ?_)
  · have h1 := g1
    try simp at h1
    obtain ⟨j, x, b, c, rest, hj, hx, hxl, hmo, rfl, rfl, hJ, hc1, hc2⟩ := mOf_some hs (by assumption)
    have hl := encMiss_len f
    have hpe : ptrO (.slice (some ⟨b, 0, none⟩) (f.map encMiss).length c) 15 (missAt f line) = some ⟨b, 0 + j * 15, none⟩ := by rw [hj]; rfl
    rw [hpe]
    rw [hpe] at g1
    refine .y rfl rfl (LD.move rfl) g1 rfl rfl rfl rfl ?_
    refine .y rfl rfl (LD.nilCheck rfl) g1 rfl rfl rfl rfl ?_
    refine .y rfl rfl (LD.fieldAddr rfl) g1 rfl rfl rfl rfl ?_
    refine .y rfl rfl (LD.f1 (J := j) (f := 14) rfl m2 (foc_same ..) rfl hJ hl rfl (by omega) rfl) g1 rfl rfl rfl rfl ?_
    refine .q rfl rfl (LD.pickF rfl g1 rfl) rfl rfl ?_
    refine .q rfl rfl (LD.move rfl) rfl rfl ?_
    refine TD.split rfl rfl rfl rfl rfl (fun g2 => ?_) (fun g2 => ?_)
    · have h2 := g2
      try simp at h2
      refine .y rfl rfl (LD.move rfl) g2 rfl rfl rfl rfl ?_
      refine .y rfl rfl (LD.nilCheck rfl) g2 rfl rfl rfl rfl ?_
      refine .y rfl rfl (LD.fieldAddr rfl) g2 rfl rfl rfl rfl ?_
      refine .y rfl rfl (LD.f1 (J := j) (f := 2) rfl m2 (foc_same ..) rfl hJ hl rfl (by omega) rfl) g2 rfl rfl rfl rfl ?_
      refine .y rfl rfl (LD.move rfl) g2 rfl rfl rfl rfl ?_
      refine .y rfl rfl (LD.nilCheck rfl) g2 rfl rfl rfl rfl ?_
      refine .y rfl rfl (LD.fieldAddr rfl) g2 rfl rfl rfl rfl ?_
      refine .y rfl rfl (LD.f1 (J := j) (f := 3) rfl m2 (foc_same ..) rfl hJ hl rfl (by omega) rfl) g2 rfl rfl rfl rfl ?_
      refine .y rfl rfl (LD.neq rfl rfl) g2 rfl rfl rfl rfl ?_
      refine .q rfl rfl (LD.pickF rfl g2 rfl) rfl rfl ?_
      refine TD.nilT ?_
      refine TC.cond rfl (fun g3 => ?_) (fun g3 => ?_)
      · have h3 := g3
        try simp at h3
        refine TC.seq ?_
        refine TC.region ?_
        refine .q (LD.bS rfl rfl (by repeat constructor)) rfl rfl ?_
        refine .e (EF.stA (i := 0) rfl rfl rfl rfl rfl rfl (by repeat constructor)) rfl rfl ?_
        refine .q (LD.assign rfl) rfl rfl ?_
        refine TL.nilS ?_
        refine TC.ret ?_
        repeat first | refine Post.sr ?_ | refine Post.br ?_
        have e : missOwe f line = (f, none) := by unfold missOwe; rw [hmo]; simp_all
        exact Out.introE (X := [_]) (L0 := [_, _]) (L' := [_]) (Res.c rfl (LV.aggL m0 (by repeat constructor) rfl) (Res.t rfl Res.z)) ⟨_, ⟨by rw [oweV, e]; rfl, _, _, by rw [e]; exact hs, hd, rfl⟩, rfl⟩ (.refl _) (Ent.fold _)
      · have h3 := g3
        try simp at h3
        refine TC.skipS ?_
        refine TC.seq ?_
        refine TC.region ?_
        refine .q (LD.move rfl) rfl rfl ?_
        refine .q (LD.nilCheck rfl) rfl rfl ?_
        refine .q (LD.fA (J := j) (f := 0) rfl m2 (foc_same ..) rfl hJ hl rfl (by omega) (by repeat constructor) rfl) rfl rfl ?_
        refine TL.nb NB.alloc (Wants.un rfl) rfl (fun b7 => ?_)
        refine .e (EF.stA (i := 0) rfl rfl rfl rfl rfl rfl (by repeat constructor)) rfl rfl ?_
        refine TL.nilS ?_
        refine TC.seq ?_
        refine TC.region ?_
        refine .q (LD.move rfl) rfl rfl ?_
        refine .q (LD.nilCheck rfl) rfl rfl ?_
        refine .q (LD.fieldAddr rfl) rfl rfl ?_
        refine .e (EF.f1 (J := j) (f := 14) (i := 3) rfl rfl rfl (by omega) hJ hl rfl rfl (by repeat constructor) rfl) rfl rfl ?_
        refine TL.nilS ?_
        refine TC.seq ?_
        refine TC.region ?_
        refine .q (LD.ldA rfl m0 (by repeat constructor) rfl) rfl rfl ?_
        refine .e (EF.stA (i := 1) rfl rfl rfl rfl rfl rfl (by repeat constructor)) rfl rfl ?_
        refine .q (LD.assign rfl) rfl rfl ?_
        refine TL.nilS ?_
        refine TC.dis fun hd2 => ?_
        refine TC.ret ?_
        repeat first | refine Post.sr ?_ | refine Post.br ?_
        have e : missOwe f line = (updMiss f line fun m => { m with owes := true }, some x) := by unfold missOwe; rw [hmo]; simp_all
        exact Out.introE (X := [_, _]) (L0 := [_, _]) (L' := [_]) (Res.c rfl (LV.aggL m1 (by repeat constructor) rfl) (Res.t rfl Res.z)) ⟨_, ⟨by rw [oweV, e]; rfl, by rw [e]; exact IsFile.upd hl hc1 hc2 rfl rfl (upd_some hj hx _) (dis_ij hd2 2 3 rfl rfl rfl)⟩, rfl⟩ (.refl _) (Ent.fold _)
    · have h2 := g2
      try simp at h2
      refine .s rfl g2 rfl rfl rfl rfl ?_
      refine .s rfl g2 rfl rfl rfl rfl ?_
      refine .s rfl g2 rfl rfl rfl rfl ?_
      refine .s rfl g2 rfl rfl rfl rfl ?_
      refine .s rfl g2 rfl rfl rfl rfl ?_
      refine .s rfl g2 rfl rfl rfl rfl ?_
      refine .s rfl g2 rfl rfl rfl rfl ?_
      refine .s rfl g2 rfl rfl rfl rfl ?_
      refine .q rfl rfl (LD.pickT rfl g2 rfl) rfl rfl ?_
      refine TD.nilT ?_
      refine TC.condT rfl rfl ?_
      refine TC.seq ?_
      refine TC.region ?_
      refine .q (LD.bS rfl rfl (by repeat constructor)) rfl rfl ?_
      refine .e (EF.stA (i := 0) rfl rfl rfl rfl rfl rfl (by repeat constructor)) rfl rfl ?_
      refine .q (LD.assign rfl) rfl rfl ?_
      refine TL.nilS ?_
      refine TC.ret ?_
      repeat first | refine Post.sr ?_ | refine Post.br ?_
      have e : missOwe f line = (f, none) := by unfold missOwe; rw [hmo]; simp_all
      exact Out.introE (X := [_]) (L0 := [_, _]) (L' := [_]) (Res.c rfl (LV.aggL m0 (by repeat constructor) rfl) (Res.t rfl Res.z)) ⟨_, ⟨by rw [oweV, e]; rfl, _, _, by rw [e]; exact hs, hd, rfl⟩, rfl⟩ (.refl _) (Ent.fold _)
  · have h1 := g1
    try simp at h1
    refine .s rfl g1 rfl rfl rfl rfl ?_
    refine .s rfl g1 rfl rfl rfl rfl ?_
    refine .s rfl g1 rfl rfl rfl rfl ?_
    refine .q rfl rfl (LD.pickT rfl g1 rfl) rfl rfl ?_
    refine .q rfl rfl (LD.move rfl) rfl rfl ?_
    refine .s rfl rfl rfl rfl rfl rfl ?_
    refine .s rfl rfl rfl rfl rfl rfl ?_
    refine .s rfl rfl rfl rfl rfl rfl ?_
    refine .s rfl rfl rfl rfl rfl rfl ?_
    refine .s rfl rfl rfl rfl rfl rfl ?_
    refine .s rfl rfl rfl rfl rfl rfl ?_
    refine .s rfl rfl rfl rfl rfl rfl ?_
    refine .s rfl rfl rfl rfl rfl rfl ?_
    refine .s rfl rfl rfl rfl rfl rfl ?_
    refine .q rfl rfl (LD.pickT rfl rfl rfl) rfl rfl ?_
    refine TD.nilT ?_
    refine TC.condT rfl rfl ?_
    refine TC.seq ?_
    refine TC.region ?_
    refine .q (LD.bS rfl rfl (by repeat constructor)) rfl rfl ?_
    refine .e (EF.stA (i := 0) rfl rfl rfl rfl rfl rfl (by repeat constructor)) rfl rfl ?_
    refine .q (LD.assign rfl) rfl rfl ?_
    refine TL.nilS ?_
    refine TC.ret ?_
    repeat first | refine Post.sr ?_ | refine Post.br ?_
    have e : missOwe f line = (f, none) := by unfold missOwe; rw [(mOf_none hs (by assumption)).2]
    exact Out.introE (X := [_]) (L0 := [_, _]) (L' := [_]) (Res.c rfl (LV.aggL m0 (by repeat constructor) rfl) (Res.t rfl Res.z)) ⟨_, ⟨by rw [oweV, e]; rfl, _, _, by rw [e]; exact hs, hd, rfl⟩, rfl⟩ (.refl _) (Ent.fold _)
open Mes in
theorem w_mOwing (room : Int) (f : List Miss) (p : Nat) (r : Frag) (hr : IsFile room f p r) (hlen : f.length ≤ 100000)  : FnR Tryz.prog 117 [.pointer (some ⟨p, 0, none⟩)] r (fun u => u = owingV f) := by
  refine Fn.body Tryz.func117 rfl rfl rfl (Nat.le_of_ble_eq_true rfl) fun F => ?_
  obtain ⟨v, s, hs, hd, rfl⟩ := hr
  refine TC.unfold (pair_disj hd) ?_
  refine TC.seq ?_
  refine TC.region ?_
  refine .q (LD.assign rfl) rfl rfl ?_
  refine .q (LD.assign rfl) rfl rfl ?_
  refine TL.nilS ?_
  refine TC.seq ?_
  refine TC.region ?_
  refine .q (LD.move rfl) rfl rfl ?_
  refine TL.clX (X := []) (pre := [_, _]) (CL.func rfl) (w_mAt room f p v s hs hlen 189 [] [] [] (fun m => m.owes) (fun x _ => w_mOwing1 x)) rfl (Wants.un rfl) rfl ?_
  rintro _ _ ⟨rfl, rfl⟩
  refine .q (LD.assign rfl) rfl rfl ?_
  refine TL.nilS ?_
  refine TC.seq ?_
  refine TC.seq ?_
  refine TC.region ?_
  refine .q (LD.move rfl) rfl rfl ?_
  refine .q (LD.lss rfl rfl) rfl rfl ?_
  refine TL.nilS ?_
  refine TC.cond rfl (fun g1 => ?_) (fun g1 => ?_)
  · have h1 := g1
    try simp at h1
    refine TC.seq ?_
    refine TC.region ?_
    refine .q (LD.assign rfl) rfl rfl ?_
    refine .q (LD.assign rfl) rfl rfl ?_
    refine TL.nilS ?_
    refine TC.ret ?_
    repeat first | refine Post.sr ?_ | refine Post.br ?_
    exact Out.introE (X := []) (L0 := [_, _]) (L' := [_]) (Res.t rfl (Res.t rfl Res.z)) ⟨by rw [owingV, missOwing, find_none_idx (idx_none h1)]; rfl, rfl⟩ (.refl _) (Ent.fold _)
  · have h1 := g1
    try simp at h1
    refine TC.skipS ?_
    refine TC.seq ?_
    refine TC.region ?_
    obtain ⟨j, hj⟩ := idx_some (by simpa using h1)
    obtain ⟨x, b, c, rest, hx, hxo, hfo, rfl, rfl, hJ, hc1, hc2⟩ := mAt_some hs hj
    have hl := encMiss_len f
    rw [hj]
    simp only [idxOf]
    refine .q (LD.move rfl) rfl rfl ?_
    refine .q (LD.nilCheck rfl) rfl rfl ?_
    refine .q (LD.fieldAddr rfl) rfl rfl ?_
    refine .q (LD.ld1 rfl m0 rfl) rfl rfl ?_
    refine .q (LD.move rfl) rfl rfl ?_
    refine .q (LD.indexAddr rfl rfl rfl (by omega)) rfl rfl ?_
    refine .q (LD.fieldAddr rfl) rfl rfl ?_
    refine .q (LD.f1 (J := j) (f := 0) rfl m1 (foc_same ..) rfl hJ hl rfl (by omega) rfl) rfl rfl ?_
    refine .q (LD.assign rfl) rfl rfl ?_
    refine .q (LD.assign rfl) rfl rfl ?_
    refine TL.nilS ?_
    refine TC.ret ?_
    repeat first | refine Post.sr ?_ | refine Post.br ?_
    exact Out.introE (X := []) (L0 := [_, _]) (L' := [_]) (Res.t rfl (Res.t rfl Res.z)) ⟨by rw [owingV, missOwing, hfo]; rfl, rfl⟩ (.refl _) (Ent.fold _)
open Mes in
theorem w_mGet (room : Int) (f : List Miss) (p : Nat) (r : Frag) (hr : IsFile room f p r) (hlen : f.length ≤ 100000) (line : Int) : FnR Tryz.prog 83 [.pointer (some ⟨p, 0, none⟩), i line] r (fun u => u = mgetV f line) := by
  refine Fn.body Tryz.func83 rfl rfl rfl (Nat.le_of_ble_eq_true rfl) fun F => ?_
  obtain ⟨v, s, hs, hd, rfl⟩ := hr
  refine TC.unfold (pair_disj hd) ?_
  refine TC.seq ?_
  refine TC.region ?_
  refine TL.nb NB.alloc (Wants.un rfl) rfl (fun b4 => ?_)
  refine .q (LD.assign rfl) rfl rfl ?_
  refine TL.nilS ?_
  refine TC.seq ?_
  refine TC.seq ?_
  refine TC.region ?_
  refine .q (LD.move rfl) rfl rfl ?_
  refine .q (LD.move rfl) rfl rfl ?_
  refine TL.clX (X := [_]) (pre := [_, _]) (CL.func rfl) (w_mOf room f p v s hs hlen line) rfl (Wants.un rfl) rfl ?_
  rintro _ _ ⟨rfl, rfl⟩
  refine .q (LD.assign rfl) rfl rfl ?_
  refine TL.nilS ?_
  refine TC.seq ?_
  refine TC.region ?_
  refine .q (LD.move rfl) rfl rfl ?_
  refine .q (LD.ptrNeq rfl rfl Tryz.underlying260 (by first | exact .inr rfl | exact .inl rfl)) rfl rfl ?_
  refine TL.nilS ?_
  refine TC.cond rfl (fun g1 => ?_) (fun g1 => ?_)
  · have h1 := g1
    try simp at h1
    refine TC.seq ?_
    refine TC.region ?_
    obtain ⟨j, x, b, c, rest, hj, hx, hxl, hmo, rfl, rfl, hJ, hc1, hc2⟩ := mOf_some hs (by assumption)
    have hl := encMiss_len f
    have hpe : ptrO (.slice (some ⟨b, 0, none⟩) (f.map encMiss).length c) 15 (missAt f line) = some ⟨b, 0 + j * 15, none⟩ := by rw [hj]; rfl
    rw [hpe]
    refine .q (LD.move rfl) rfl rfl ?_
    refine .q (LD.nilCheck rfl) rfl rfl ?_
    refine .q (LD.fA (J := j) (f := 0) rfl m2 (foc_same ..) rfl hJ hl rfl (by omega) (by repeat constructor) rfl) rfl rfl ?_
    refine .e (EF.stA (i := 0) rfl rfl rfl rfl rfl rfl (by repeat constructor)) rfl rfl ?_
    refine .q (LD.assign rfl) rfl rfl ?_
    refine TL.nilS ?_
    refine TC.ret ?_
    repeat first | refine Post.sr ?_ | refine Post.br ?_
    exact Out.introE (X := [_]) (L0 := [_, _]) (L' := [_]) (Res.c rfl (LV.aggL m0 (by repeat constructor) rfl) (Res.t rfl Res.z)) ⟨by rw [mgetV, hmo]; rfl, rfl⟩ (.refl _) (Ent.fold _)
  · have h1 := g1
    try simp at h1
    refine TC.skipS ?_
    refine TC.seq ?_
    refine TC.region ?_
    refine .q (LD.bS rfl rfl (by repeat constructor)) rfl rfl ?_
    refine .e (EF.stA (i := 0) rfl rfl rfl rfl rfl rfl (by repeat constructor)) rfl rfl ?_
    refine .q (LD.assign rfl) rfl rfl ?_
    refine TL.nilS ?_
    refine TC.ret ?_
    repeat first | refine Post.sr ?_ | refine Post.br ?_
    exact Out.introE (X := [_]) (L0 := [_, _]) (L' := [_]) (Res.c rfl (LV.aggL m0 (by repeat constructor) rfl) (Res.t rfl Res.z)) ⟨by rw [mgetV, (mOf_none hs (by assumption)).2]; rfl, rfl⟩ (.refl _) (Ent.fold _)
open Mes in
theorem w_mList (room : Int) (f : List Miss) (p : Nat) (r : Frag) (hr : IsFile room f p r) (hlen : f.length ≤ 100000)  : FnRN Tryz.prog 86 [.pointer (some ⟨p, 0, none⟩)] r (fun u r' => IsSl 162 15 (f.map encMiss) u r') := by
  refine Fn.body Tryz.func86 rfl rfl rfl (Nat.le_of_ble_eq_true rfl) fun F => ?_
  obtain ⟨v, s, hs, hd, rfl⟩ := hr
  refine TC.unfold (pair_disj hd) ?_
  refine TC.seq ?_
  refine TC.region ?_
  refine .q (LD.assign rfl) rfl rfl ?_
  refine TL.nilS ?_
  refine TC.seq ?_
  refine TC.region ?_
  refine .q (LD.move rfl) rfl rfl ?_
  refine .q (LD.nilCheck rfl) rfl rfl ?_
  refine .q (LD.fieldAddr rfl) rfl rfl ?_
  refine .q (LD.ld1 rfl m0 rfl) rfl rfl ?_
  obtain ⟨q, cap, rfl, hrd⟩ := hs.rd
  refine TL.crn (CL.func rfl) (w_Clonemshr_Miss _ q cap s hrd (by simpa using by omega)) m1 (Wants.un rfl) rfl ?_
  intro v2 r2 hs2
  refine .q (LD.assign rfl) rfl rfl ?_
  refine TL.nilS ?_
  refine TC.ret ?_
  repeat first | refine Post.sr ?_ | refine Post.br ?_
  refine Out.introE (X := []) (L0 := [_, _, _]) (L' := [_, _]) (Res.t rfl Res.z) ⟨_, hs2, rfl⟩ (.refl _) (Ent.foldc _ [_, _])
open Mes in
theorem w_mClose (room : Int) (f : List Miss) (p : Nat) (r : Frag) (hr : IsFile room f p r) (hlen : f.length ≤ 100000) (line : Int) : FnW Tryz.prog 118 [.pointer (some ⟨p, 0, none⟩), i line] r (fun u r' => u = i (closeE f line) ∧ IsFile room (missClose f line) p r') := by
  refine Fn.body Tryz.func118 rfl rfl rfl (Nat.le_of_ble_eq_true rfl) fun F => ?_
  obtain ⟨v, s, hs, hd, rfl⟩ := hr
  refine TC.unfold (pair_disj hd) ?_
  refine TC.seq ?_
  refine TC.region ?_
  refine TL.nb (NB.box1 rfl rfl) (Wants.un rfl) rfl (fun b3 => ?_)
  refine .q (LD.assign rfl) rfl rfl ?_
  refine TL.nilS ?_
  refine TC.seq ?_
  refine TC.region ?_
  refine .q (LD.move rfl) rfl rfl ?_
  refine .q (LD.ld1 rfl m0 rfl) rfl rfl ?_
  refine TL.clX (X := [_]) (pre := [_, _]) (CL.func rfl) (w_mOf room f p v s hs hlen line) rfl (Wants.un rfl) rfl ?_
  rintro _ _ ⟨rfl, rfl⟩
  refine .q (LD.assign rfl) rfl rfl ?_
  refine TL.nilS ?_
  refine TC.seq ?_
  refine TC.block ?_
  refine TC.seq ?_
  refine TC.region ?_
  refine .q (LD.move rfl) rfl rfl ?_
  refine .q (LD.ptrEql rfl rfl Tryz.underlying260 (by first | exact .inr rfl | exact .inl rfl)) rfl rfl ?_
  refine .q (LD.assign rfl) rfl rfl ?_
  refine TL.nilS ?_
  refine TC.cond rfl (fun g1 => ?_) (fun g1 => ?_)
  · have h1 := g1
    try simp at h1
    refine TC.seq ?_
    refine TC.region ?_
    refine .q (LD.assign rfl) rfl rfl ?_
    refine TL.nilS ?_
    refine TC.ret ?_
    repeat first | refine Post.sr ?_ | refine Post.br ?_
    exact Out.introE (X := [_]) (L0 := [_, _]) (L' := [_]) (Res.t rfl Res.z) ⟨_, ⟨by rw [show closeE f line = 5 from by unfold closeE; rw [(mOf_none hs (by assumption)).2]]; rfl, _, _, by rw [show missClose f line = f from by unfold missClose; rw [(mOf_none hs (by assumption)).2]]; exact hs, hd, rfl⟩, rfl⟩ (.refl _) (Ent.fold _)
  · have h1 := g1
    try simp at h1
    refine TC.seq ?_
    refine TC.region ?_
    obtain ⟨j, x, b, c, rest, hj, hx, hxl, hmo, rfl, rfl, hJ, hc1, hc2⟩ := mOf_some hs (by assumption)
    have hl := encMiss_len f
    have hpe : ptrO (.slice (some ⟨b, 0, none⟩) (f.map encMiss).length c) 15 (missAt f line) = some ⟨b, 0 + j * 15, none⟩ := by rw [hj]; rfl
    rw [hpe]
    refine .q (LD.move rfl) rfl rfl ?_
    refine .q (LD.nilCheck rfl) rfl rfl ?_
    refine .q (LD.fieldAddr rfl) rfl rfl ?_
    refine .q (LD.f1 (J := j) (f := 14) rfl m2 (foc_same ..) rfl hJ hl rfl (by omega) rfl) rfl rfl ?_
    refine .q (LD.not rfl) rfl rfl ?_
    refine .q (LD.assign rfl) rfl rfl ?_
    refine TL.nilS ?_
    refine TC.cond rfl (fun g2 => ?_) (fun g2 => ?_)
    · have h2 := g2
      try simp at h2
      refine TC.seq ?_
      refine TC.region ?_
      refine .q (LD.assign rfl) rfl rfl ?_
      refine TL.nilS ?_
      refine TC.ret ?_
      repeat first | refine Post.sr ?_ | refine Post.br ?_
      exact Out.introE (X := [_]) (L0 := [_, _]) (L' := [_]) (Res.t rfl Res.z) ⟨_, ⟨by rw [show closeE f line = 7 from by unfold closeE; rw [hmo]; simp_all]; rfl, _, _, by rw [show missClose f line = f from by unfold missClose; rw [hmo]; simp_all]; exact hs, hd, rfl⟩, rfl⟩ (.refl _) (Ent.fold _)
    · have h2 := g2
      try simp at h2
      refine TC.skip ?_
      refine TC.seq ?_
      refine TC.region ?_
      have how : x.owes = true := by simp_all
      refine .q (LD.move rfl) rfl rfl ?_
      refine .q (LD.makeFunc rfl rfl) rfl rfl ?_
      refine TL.cl (pre := [_, _, _]) (F := F) (CL.func rfl) (w_mAt room f p _ _ hs hlen 190 [] [.pointer (some ⟨b3, 0, none⟩)] [_] (fun m => m.line == line) (fun x _ => w_mClose1 x line b3)) perm3 (Wants.un rfl) rfl ?_
      rintro _ _ ⟨rfl, rfl⟩
      refine TL.perm perm3' ?_
      rw [show f.findIdx? (fun m => m.line == line) = some j from hj]
      simp only [idxOf]
      refine .q (LD.assign rfl) rfl rfl ?_
      refine TL.nilS ?_
      refine TC.seq ?_
      have he : (f.map encMiss)[j]? = some (encMiss x) := by rw [List.getElem?_map, hx]; rfl
      have hnn : (f.map encMiss).length = f.length := List.length_map ..
      rw [← foc_of he]
      refine TC.drawX (R := [_, _]) [0, 0, 0, 0, 0, 0, 0, 0, 0, 0, 0, 0, 0, 2] [0, 1, 2, 3, 4, 5, 6, 7, 8, 9, 10, 11, 12, 13] TryzI.mixed (by decide +kernel) (no4 (by decide)) rfl ?_
      skip
      refine .q rfl rfl (LD.move rfl) rfl rfl ?_
      refine .q rfl rfl (LD.nilCheck rfl) rfl rfl ?_
      refine .q rfl rfl (LD.fieldAddr rfl) rfl rfl ?_
      refine .q rfl rfl (LD.ld1 rfl m1 rfl) rfl rfl ?_
      refine .q rfl rfl (LD.move rfl) rfl rfl ?_
      refine .q rfl rfl (LD.sliceS rfl rfl rfl (by omega) (by intro _; omega)) rfl rfl ?_
      rw [if_neg (by omega)]
      simp only [Option.map_some, Addr.add_none, Nat.zero_add, Int.toNat_natCast]
      refine .q rfl rfl (LD.move rfl) rfl rfl ?_
      refine .q rfl rfl (LD.nilCheck rfl) rfl rfl ?_
      refine .q rfl rfl (LD.fieldAddr rfl) rfl rfl ?_
      refine .q rfl rfl (LD.ld1 rfl m1 rfl) rfl rfl ?_
      refine .q rfl rfl (LD.move rfl) rfl rfl ?_
      refine .q rfl rfl (LD.add rfl rfl (by simp only [List.length_map] at hJ; omega)) rfl rfl ?_
      refine .q rfl rfl (LD.sliceS rfl rfl rfl (by omega) (by intro _; omega)) rfl rfl ?_
      have hn2 : ((List.length (f.map encMiss) : Nat) : Int).toNat - ((j : Int) + 1).toNat = ((f.map encMiss).drop (j + 1)).length := by rw [List.length_drop]; omega
      rw [hn2]
      generalize hq2 : (if ((c : Int) = (j : Int) + 1) then (some (⟨b, 0, none⟩ : Addr)) else (some (⟨b, 0, none⟩ : Addr)).map (·.add (((j : Int) + 1).toNat * 15))) = q2
      have hrd2 := Rd.drop_ (r := blk b 162 ((f.map encMiss).flatten ++ rest).toArray) (blk_same ..) hl (encMiss_one f) (j + 1) q2 (by intro h; rw [← hq2, if_neg (by omega)]; simp only [Option.map_some, Addr.add_none, Nat.zero_add]; rfl)
      have hfit : j * 15 + ((f.map encMiss).drop (j + 1)).length * 15 ≤ ((f.map encMiss).flatten ++ rest).length := by rw [List.length_append, flatten_len hl, List.length_drop]; omega
      refine TD.efF (j := 0) rfl rfl (EF.copyK (i := 0) rfl rfl rfl rfl hrd2 m0 (by rw [List.length_drop]; omega) hfit) rfl (Wants.un rfl) rfl ?_
      refine TD.nilX ?_
      refine TC.seq ?_
      rw [copy_down hl hJ]
      refine TC.drawW [0, 0, 0, 0, 1, 0, 0, 0, 1, 0, 0, 0, 0, 0, 2] [0, 1, 2, 3, 4, 5, 6, 7, 8, 9, 10, 11, 12, 13, 14] TryzI.mixed (by decide +kernel) (by decide) ?_
      refine .q rfl rfl (LD.move rfl) rfl rfl ?_
      refine .q rfl rfl (LD.move rfl) rfl rfl ?_
      refine .q rfl rfl (LD.nilCheck rfl) rfl rfl ?_
      refine .q rfl rfl (LD.fieldAddr rfl) rfl rfl ?_
      refine .r rfl rfl (LD.ld1 rfl m1 rfl) rfl rfl ?_
      refine .q rfl rfl (LD.move rfl) rfl rfl ?_
      refine .q rfl rfl (LD.nilCheck rfl) rfl rfl ?_
      refine .q rfl rfl (LD.fieldAddr rfl) rfl rfl ?_
      refine .r rfl rfl (LD.ld1 rfl m1 rfl) rfl rfl ?_
      refine .q rfl rfl (LD.lenS rfl rfl Tryz.underlying143) rfl rfl ?_
      refine .q rfl rfl (LD.sub rfl rfl (by omega)) rfl rfl ?_
      refine .q rfl rfl (LD.sliceS rfl rfl rfl (by omega) (by intro h; cases h)) rfl rfl ?_
      rw [if_neg (by omega)]
      simp only [Option.map_some, Addr.add_none, Nat.zero_add, Int.toNat_zero, Nat.zero_mul, Nat.sub_zero]
      rw [show (((List.length (f.map encMiss) : Nat) : Int) - 1).toNat = (f.map encMiss).length - 1 by omega]
      refine .q rfl rfl (LD.nilCheck rfl) rfl rfl ?_
      refine .q rfl rfl (LD.fieldAddr rfl) rfl rfl ?_
      refine TD.efF (j := 1) rfl rfl (EF.st1 (i := 0) rfl rfl rfl rfl rfl (by repeat constructor)) rfl (Wants.un rfl) rfl ?_
      refine TD.nilC ?_
      refine TC.seq ?_
      refine TC.region ?_
      refine .q (LD.assign rfl) rfl rfl ?_
      refine TL.nilS ?_
      refine TC.dis fun hd2 => ?_
      refine TC.ret ?_
      repeat first | refine Post.sr ?_ | refine Post.br ?_
      have e : (missClose f line).map encMiss = (f.map encMiss).eraseIdx j := by unfold missClose; rw [hmo]; simp only [how, if_true, hj]; rw [er_map]
      exact Out.introE (X := [_]) (L0 := [_, _]) (L' := [_]) (Res.t rfl Res.z) ⟨_, ⟨by rw [show closeE f line = 0 from by unfold closeE; rw [hmo]; simp [how]]; rfl, _, _, by rw [e]; exact IsSl.erase hl (encMiss_one f) hJ hc1 hc2 rfl, dis_ij hd2 1 2 rfl rfl rfl, rfl⟩, rfl⟩ (.refl _) (Ent.fold _)
end Go.SL.TryzI
