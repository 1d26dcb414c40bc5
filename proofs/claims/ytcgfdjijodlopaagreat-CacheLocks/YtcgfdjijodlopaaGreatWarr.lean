/- A part of proofs about the given program. No condition. -/
import Derived.Test.YtcgfdjijodlopaaGreatWidx
import Derived.Test.YtcgfdjijodlopaaGreatEb
set_option linter.all false
namespace Go.SL.TryzI
open Go Go.Proofs Go.SL
set_option maxRecDepth 100000


open Mes in
def encW (w : Words) : List Value := [i (w.get 0), i (w.get 1), i (w.get 2), i (w.get 3), i (w.get 4), i (w.get 5), i (w.get 6), i (w.get 7)]
open Mes in
def encWay (w : Mes.Way) : List Value := [i w.state, i w.line, i (w.words.get 0), i (w.words.get 1), i (w.words.get 2), i (w.words.get 3), i (w.words.get 4), i (w.words.get 5), i (w.words.get 6), i (w.words.get 7), .bool w.locked]
open Mes in
theorem encWay_len (a : List Mes.Way) : ∀ e ∈ a.map encWay, e.length = 11 := fun e he => by
  obtain ⟨x, _, rfl⟩ := List.mem_map.1 he; rfl
open Mes in
theorem encWay_one (a : List Mes.Way) : ∀ e ∈ a.map encWay, ∀ v ∈ e, v.oneCell' = true := fun e he => by
  obtain ⟨x, _, rfl⟩ := List.mem_map.1 he
  exact ones_spec rfl
open Mes in
/-- an array: its sizes, and its ways -/
def ArrF (p b : Nat) (c : Cfg) (a : List Mes.Way) : Frag := un [blk p 234 (encM c (.slice (some ⟨b, 0, none⟩) a.length a.length)).toArray, blk b 66 ((a.map encWay).flatten).toArray]
theorem Rd.part {r : Frag} {b k T : Nat} {fr : Nat × Nat} {es : List (List Value)} (h : r b = some (.cells es.flatten.toArray T fr)) (hl : ∀ e ∈ es, e.length = k) (h1 : ∀ e ∈ es, ∀ v ∈ e, v.oneCell' = true) (base n : Nat) : Rd r (some ⟨b, 0 + base * k, none⟩) k ((es.drop base).take n) := by
  refine ⟨fun e he => hl e (List.mem_of_mem_drop (List.mem_of_mem_take he)), fun e he => h1 e (List.mem_of_mem_drop (List.mem_of_mem_take he)), .inr ⟨b, 0 + base * k, _, T, fr, rfl, h, fun j v hj => ?_⟩⟩
  have hpre : ((es.drop base).take n).flatten <+: (es.drop base).flatten := by
    have : (es.drop base).flatten = ((es.drop base).take n).flatten ++ ((es.drop base).drop n).flatten := by rw [← List.flatten_append, List.take_append_drop]
    rw [this]; exact List.prefix_append ..
  have hj2 : (es.drop base).flatten[j]? = some v := by
    obtain ⟨t, ht⟩ := hpre
    rw [← ht, List.getElem?_append_left (List.getElem?_eq_some_iff.1 hj).1]; exact hj
  have hd : es.flatten = (es.take base).flatten ++ (es.drop base).flatten := by rw [← List.flatten_append, List.take_append_drop]
  rcases Nat.lt_or_ge base es.length with hb | hb
  · have hlen : (es.take base).flatten.length = base * k := by
      rw [flatten_len (fun e he => hl e (List.mem_of_mem_take he)), List.length_take, Nat.min_eq_left (by omega)]
    simp only [List.getElem?_toArray, Nat.zero_add]
    rw [hd, List.getElem?_append_right (by omega), hlen]
    rw [show base * k + j - base * k = j by omega]; exact hj2
  · rw [List.drop_of_length_le hb] at hj2; simp at hj2

open Mes in
theorem w_there (w : Mes.Way) : FnP Tryz.prog 166 [.agg (encWay w).toArray] (fun v => v = .bool w.there) := by
  refine Fn.body Tryz.func166 rfl rfl rfl (Nat.le_of_ble_eq_true rfl) fun F => ?_
  refine TC.seq ?_
  refine TC.region ?_
  refine TL.nb (NB.boxA rfl) (Wants.un rfl) rfl (fun b1 => ?_)
  refine .q (LD.assign rfl) rfl rfl ?_
  refine TL.nilS ?_
  refine TC.seq ?_
  refine TC.region ?_
  refine .q (LD.fieldAddr rfl) rfl rfl ?_
  refine .q (LD.ld1 rfl m0 rfl) rfl rfl ?_
  refine .q (LD.neq rfl rfl) rfl rfl ?_
  refine .q (LD.move rfl) rfl rfl ?_
  refine TL.split rfl rfl rfl rfl (fun g1 => ?_) (fun g1 => ?_)
  · have h1 := g1
    try simp at h1
    refine .y (LD.fieldAddr rfl) g1 rfl rfl rfl rfl ?_
    refine .y (LD.ld1 rfl m0 rfl) g1 rfl rfl rfl rfl ?_
    refine .q (LD.pickF rfl g1 rfl) rfl rfl ?_
    refine .q (LD.assign rfl) rfl rfl ?_
    refine TL.nilS ?_
    refine TC.ret ?_
    repeat first | refine Post.sr ?_ | refine Post.br ?_
    exact Out.intro (X := [_]) (L' := []) (Res.t rfl Res.z) ⟨by simp_all [Mes.Way.there, pack], rfl⟩ (.refl _)
  · have h1 := g1
    try simp at h1
    refine .s g1 rfl rfl rfl rfl ?_
    refine .q (LD.pickT rfl g1 rfl) rfl rfl ?_
    refine .q (LD.assign rfl) rfl rfl ?_
    refine TL.nilS ?_
    refine TC.ret ?_
    repeat first | refine Post.sr ?_ | refine Post.br ?_
    exact Out.intro (X := [_]) (L' := []) (Res.t rfl Res.z) ⟨by simp_all [Mes.Way.there, pack], rfl⟩ (.refl _)

theorem R64.small {x : Int} (h : -1000000000 ≤ x ∧ x ≤ 1000000000) : R64 x := ⟨by omega, by omega⟩
open Mes in
theorem base_in {c : Cfg} (hk : c.ok = true) (line : Int) (hl : 0 ≤ line) : 0 ≤ line % c.sets ∧ line % c.sets < c.sets ∧ 0 ≤ line % c.sets * c.ways ∧ line % c.sets * c.ways + c.ways ≤ c.sets * c.ways ∧ c.sets * c.ways ≤ 512 := by
  have hs := okS hk
  obtain ⟨j1, _, e1, e1'⟩ := hs.sets
  have p1 := pow_pos j1
  have hw := hs.ways
  have h0 : 0 ≤ line % c.sets := Int.emod_nonneg _ (by omega)
  have h1 : line % c.sets < c.sets := Int.emod_lt_of_pos _ (by omega)
  have h2 : (line % c.sets + 1) * c.ways ≤ c.sets * c.ways := Int.mul_le_mul_of_nonneg_right (by omega) (by omega)
  have h3 : c.sets * c.ways ≤ 64 * 8 := Int.mul_le_mul (by omega) (by omega) (by omega) (by omega)
  have h4 : (line % c.sets + 1) * c.ways = line % c.sets * c.ways + c.ways := by rw [Int.add_mul]; omega
  exact ⟨h0, h1, Int.mul_nonneg h0 (by omega), by omega, by omega⟩

open Mes in
theorem w_ways (c : Cfg) (a : List Mes.Way) (p b : Nat) (hpb : p ≠ b) (s : Int) (hs : 0 ≤ s * c.ways ∧ s * c.ways + c.ways ≤ a.length ∧ 1 ≤ c.ways ∧ a.length ≤ 512) : FnR Tryz.prog 148 [.pointer (some ⟨p, 0, none⟩), i s] (ArrF p b c a) (fun v => v = .slice (some ⟨b, 0 + (s * c.ways).toNat * 11, none⟩) c.ways.toNat c.ways.toNat) := by
  refine Fn.body Tryz.func148 rfl rfl rfl (Nat.le_of_ble_eq_true rfl) fun F => ?_
  refine TC.unfold (pair_disj (blk_disj hpb)) ?_
  refine TC.seq ?_
  refine TC.region ?_
  refine .q (LD.assign rfl) rfl rfl ?_
  refine TL.nilS ?_
  refine TC.seq ?_
  refine TC.region ?_
  refine .q (LD.move rfl) rfl rfl ?_
  refine .q (LD.move rfl) rfl rfl ?_
  refine .q (LD.nilCheck rfl) rfl rfl ?_
  refine .q (LD.fieldAddr rfl) rfl rfl ?_
  refine .q (LD.fieldAddr rfl) rfl rfl ?_
  refine .q (LD.ld1 rfl m0 rfl) rfl rfl ?_
  refine .q (LD.mul rfl rfl (by omega)) rfl rfl ?_
  refine .q (LD.assign rfl) rfl rfl ?_
  refine TL.nilS ?_
  refine TC.seq ?_
  refine TC.draw0 [0, 0, 0, 0, 0, 0, 0, 0, 0, 0, 0, 0, 0, 0, 0, 0, 0, 0, 0, 0, 0] [0, 1, 2, 3, 4, 5, 6, 7, 8, 9, 10, 11, 12, 13, 14, 15, 16, 17, 18, 19, 20] TryzI.mixed (by decide +kernel) (by decide) ?_
  refine .q rfl rfl (LD.move rfl) rfl rfl ?_
  refine .q rfl rfl (LD.nilCheck rfl) rfl rfl ?_
  refine .q rfl rfl (LD.fieldAddr rfl) rfl rfl ?_
  refine .q rfl rfl (LD.ld1 rfl m0 rfl) rfl rfl ?_
  refine .q rfl rfl (LD.move rfl) rfl rfl ?_
  refine .q rfl rfl (LD.move rfl) rfl rfl ?_
  refine .q rfl rfl (LD.move rfl) rfl rfl ?_
  refine .q rfl rfl (LD.nilCheck rfl) rfl rfl ?_
  refine .q rfl rfl (LD.fieldAddr rfl) rfl rfl ?_
  refine .q rfl rfl (LD.fieldAddr rfl) rfl rfl ?_
  refine .q rfl rfl (LD.ld1 rfl m0 rfl) rfl rfl ?_
  refine .q rfl rfl (LD.add rfl rfl (by omega)) rfl rfl ?_
  refine .q rfl rfl (LD.move rfl) rfl rfl ?_
  refine .q rfl rfl (LD.move rfl) rfl rfl ?_
  refine .q rfl rfl (LD.nilCheck rfl) rfl rfl ?_
  refine .q rfl rfl (LD.fieldAddr rfl) rfl rfl ?_
  refine .q rfl rfl (LD.fieldAddr rfl) rfl rfl ?_
  refine .q rfl rfl (LD.ld1 rfl m0 rfl) rfl rfl ?_
  refine .q rfl rfl (LD.add rfl rfl (by omega)) rfl rfl ?_
  refine .q rfl rfl (LD.sliceM rfl rfl rfl rfl (by omega) (by omega)) rfl rfl ?_
  refine .q rfl rfl (LD.assign rfl) rfl rfl ?_
  refine TD.nilT ?_
  refine TC.ret ?_
  repeat first | refine Post.sr ?_ | refine Post.br ?_
  exact Out.introE (X := []) (L0 := [_, _]) (L' := [_]) (Res.t rfl Res.z) ⟨by simp only [pack]; congr 1 <;> omega, rfl⟩ (.refl _) (Ent.fold _)

open Mes in
theorem arr_p {p b : Nat} {c : Cfg} {a : List Mes.Way} : ArrF p b c a p = some (.cells (encM c (.slice (some ⟨b, 0, none⟩) a.length a.length)).toArray 234 (0, 0)) := by simp [ArrF, un, blk]
open Mes in
theorem arr_b {p b : Nat} {c : Cfg} {a : List Mes.Way} (h : p ≠ b) : ArrF p b c a b = some (.cells ((a.map encWay).flatten).toArray 66 (0, 0)) := by simp [ArrF, un, blk, h.symm]
open Mes in
def ofV (c : Cfg) (b : Nat) (line : Int) : Value := bif inR line c.lines then .slice (some ⟨b, 0 + (baseOf c line) * 11, none⟩) c.ways.toNat c.ways.toNat else .slice none 0 0

open Mes in
theorem w_arrOf (c : Cfg) (hc : CfgR c) (hok : c.ok = true) (a : List Mes.Way) (ha : (a.length : Int) = c.sets * c.ways) (p b : Nat) (hpb : p ≠ b) (line : Int) (hline : R64 line) : FnR Tryz.prog 143 [.pointer (some ⟨p, 0, none⟩), i line] (ArrF p b c a) (fun v => v = ofV c b line) := by
  refine Fn.body Tryz.func143 rfl rfl rfl (Nat.le_of_ble_eq_true rfl) fun F => ?_
  refine TC.seq ?_
  refine TC.region ?_
  refine .q (LD.assign rfl) rfl rfl ?_
  refine TL.nilS ?_
  refine TC.seq ?_
  refine TC.region ?_
  refine .q (LD.move rfl) rfl rfl ?_
  refine .q (LD.nilCheck rfl) rfl rfl ?_
  refine .q (LD.fieldAddr rfl) rfl rfl ?_
  refine .q (LD.ldAf rfl m0 arr_p (by repeat constructor) rfl) rfl rfl ?_
  refine .q (LD.move rfl) rfl rfl ?_
  refine TL.cp (CL.func rfl) (w_Line c hc line hline) (Wants.un rfl) rfl ?_
  rintro _ rfl
  rw [hok, Bool.true_and, show (bif inR line c.lines then Value.tuple #[i (line % c.homes), i (line % c.sets), i (line / c.sets), i 0] else Value.tuple #[i 0, i 0, i 0, i 1]) = Value.tuple #[i (bif inR line c.lines then line % c.homes else 0), i (bif inR line c.lines then line % c.sets else 0), i (bif inR line c.lines then line / c.sets else 0), i (bif inR line c.lines then 0 else 1)] from by cases inR line c.lines <;> rfl]
  refine .q (LD.move rfl) rfl rfl ?_
  refine .q (LD.ex rfl rfl) rfl rfl ?_
  refine .q (LD.ex rfl rfl) rfl rfl ?_
  refine .q (LD.ex rfl rfl) rfl rfl ?_
  refine .q (LD.ex rfl rfl) rfl rfl ?_
  refine .q (LD.assign rfl) rfl rfl ?_
  refine .q (LD.assign rfl) rfl rfl ?_
  refine .q (LD.assign rfl) rfl rfl ?_
  refine .q (LD.assign rfl) rfl rfl ?_
  refine TL.nilS ?_
  refine TC.seq ?_
  refine TC.seq ?_
  refine TC.region ?_
  refine .q (LD.move rfl) rfl rfl ?_
  refine .q (LD.neq rfl rfl) rfl rfl ?_
  refine TL.nilS ?_
  refine TC.cond rfl (fun g1 => ?_) (fun g1 => ?_)
  · have h1 := g1
    try simp at h1
    refine TC.seq ?_
    refine TC.region ?_
    refine .q (LD.assign rfl) rfl rfl ?_
    refine TL.nilS ?_
    refine TC.ret ?_
    repeat first | refine Post.sr ?_ | refine Post.br ?_
    exact Out.intro (X := []) (L' := [_]) (Res.t rfl Res.z) ⟨by rw [ofV, show inR line c.lines = false from by (cases hk : inR line c.lines); rfl; rw [hk] at h1; simp at h1]; rfl, rfl⟩ (.refl _)
  · have h1 := g1
    try simp at h1
    refine TC.skipS ?_
    refine TC.seq ?_
    refine TC.region ?_
    have hin : inR line c.lines = true := by
      cases hk : inR line c.lines
      · rw [hk] at h1; simp at h1
      · rfl
    have hin2 := hin
    simp only [inR, Bool.and_eq_true, decide_eq_true_eq] at hin2
    have hbi := base_in hok line hin2.1
    have hways := (okS hok).ways
    simp only [hin, cond_true]
    refine .q (LD.move rfl) rfl rfl ?_
    refine .q (LD.move rfl) rfl rfl ?_
    refine TL.cr (CL.func rfl) (w_ways c a p b hpb (line % c.sets) ⟨hbi.2.2.1, by omega, hways.1, by omega⟩) (by first | exact .head _ | exact .tail _ (.head _) | exact .tail _ (.tail _ (.head _)) | exact .tail _ (.tail _ (.tail _ (.head _))) | exact .tail _ (.tail _ (.tail _ (.tail _ (.head _)))) | exact .tail _ (.tail _ (.tail _ (.tail _ (.tail _ (.head _))))) | exact .tail _ (.tail _ (.tail _ (.tail _ (.tail _ (.tail _ (.head _)))))) | exact .tail _ (.tail _ (.tail _ (.tail _ (.tail _ (.tail _ (.tail _ (.head _))))))) | exact .tail _ (.tail _ (.tail _ (.tail _ (.tail _ (.tail _ (.tail _ (.tail _ (.head _)))))))) | exact .tail _ (.tail _ (.tail _ (.tail _ (.tail _ (.tail _ (.tail _ (.tail _ (.tail _ (.head _))))))))) | exact .tail _ (.tail _ (.tail _ (.tail _ (.tail _ (.tail _ (.tail _ (.tail _ (.tail _ (.tail _ (.head _)))))))))) | exact .tail _ (.tail _ (.tail _ (.tail _ (.tail _ (.tail _ (.tail _ (.tail _ (.tail _ (.tail _ (.tail _ (.head _)))))))))))) (Wants.un rfl) rfl ?_
    rintro _ rfl
    refine .q (LD.assign rfl) rfl rfl ?_
    refine TL.nilS ?_
    refine TC.ret ?_
    repeat first | refine Post.sr ?_ | refine Post.br ?_
    exact Out.intro (X := []) (L' := [_]) (Res.t rfl Res.z) ⟨by rw [ofV, hin]; rfl, rfl⟩ (.refl _)

open Mes in
theorem ways_len {c : Cfg} (hok : c.ok = true) {a : List Mes.Way} (ha : (a.length : Int) = c.sets * c.ways) {line : Int} (hin : inR line c.lines = true) : (waysOf c a line).length = c.ways.toNat := by
  have hin2 := hin
  simp only [inR, Bool.and_eq_true, decide_eq_true_eq] at hin2
  have hbi := base_in hok line hin2.1
  have hw := (okS hok).ways
  simp only [waysOf, hin, if_true, waysFrom, List.length_take, List.length_drop, baseOf, Cfg.setOf]
  omega
open Mes in
theorem of_rd {c : Cfg} (hok : c.ok = true) {a : List Mes.Way} (ha : (a.length : Int) = c.sets * c.ways) {p b : Nat} (hpb : p ≠ b) (line : Int) : ∃ q cap, ofV c b line = .slice q (waysOf c a line).length cap ∧ Rd (ArrF p b c a) q 11 ((waysOf c a line).map encWay) := by
  cases hin : inR line c.lines
  · refine ⟨none, 0, by simp [ofV, hin, waysOf], ?_⟩
    simp only [waysOf, hin]
    exact ⟨fun e he => by simp at he, fun e he => by simp at he, .inl (by simp)⟩
  · refine ⟨_, c.ways.toNat, by rw [ofV, hin, ways_len hok ha hin]; rfl, ?_⟩
    have := Rd.part (arr_b (c := c) (a := a) hpb) (encWay_len a) (encWay_one a) (baseOf c line) c.ways.toNat
    simpa [waysOf, hin, waysFrom, List.map_take, List.map_drop] using this

open Mes in
theorem w_place1 (w : Mes.Way) (line : Int) (bl : Nat) : FnR Tryz.prog 197 [.agg (encWay w).toArray, .pointer (some ⟨bl, 0, none⟩)] (blk bl 3 [i line].toArray) (fun v => v = .bool (has line w)) := by
  refine Fn.body Tryz.func197 rfl rfl rfl (Nat.le_of_ble_eq_true rfl) fun F => ?_
  refine TC.seq ?_
  refine TC.region ?_
  refine TL.nb (NB.boxA rfl) (Wants.un rfl) rfl (fun b2 => ?_)
  refine .q (LD.assign rfl) rfl rfl ?_
  refine TL.nilS ?_
  refine TC.seq ?_
  refine TC.region ?_
  refine .q (LD.ldA rfl m0 (by repeat constructor) rfl) rfl rfl ?_
  refine TL.cp (CL.func rfl) (w_there _) (Wants.un rfl) rfl ?_
  rintro _ rfl
  refine .q (LD.move rfl) rfl rfl ?_
  refine TL.split rfl rfl rfl rfl (fun g1 => ?_) (fun g1 => ?_)
  · have h1 := g1
    try simp at h1
    refine .y (LD.fieldAddr rfl) g1 rfl rfl rfl rfl ?_
    refine .y (LD.ld1 rfl m0 rfl) g1 rfl rfl rfl rfl ?_
    refine .y (LD.ld1 rfl m1 rfl) g1 rfl rfl rfl rfl ?_
    refine .y (LD.eql rfl rfl) g1 rfl rfl rfl rfl ?_
    refine .q (LD.pickT rfl g1 rfl) rfl rfl ?_
    refine .q (LD.assign rfl) rfl rfl ?_
    refine TL.nilS ?_
    refine TC.ret ?_
    repeat first | refine Post.sr ?_ | refine Post.br ?_
    exact Out.intro (X := [_]) (L' := [_]) (Res.t rfl Res.z) ⟨by simp_all [has, pack, beq_int], rfl⟩ (.refl _)
  · have h1 := g1
    try simp at h1
    refine .s g1 rfl rfl rfl rfl ?_
    refine .s g1 rfl rfl rfl rfl ?_
    refine .s g1 rfl rfl rfl rfl ?_
    refine .q (LD.pickF rfl g1 rfl) rfl rfl ?_
    refine .q (LD.assign rfl) rfl rfl ?_
    refine TL.nilS ?_
    refine TC.ret ?_
    repeat first | refine Post.sr ?_ | refine Post.br ?_
    exact Out.intro (X := [_]) (L' := [_]) (Res.t rfl Res.z) ⟨by simp_all [has, pack, beq_int], rfl⟩ (.refl _)
open Mes in
theorem w_Free1 (w : Mes.Way) : FnP Tryz.prog 165 [.agg (encWay w).toArray] (fun v => v = .bool (!w.there)) := by
  refine Fn.body Tryz.func165 rfl rfl rfl (Nat.le_of_ble_eq_true rfl) fun F => ?_
  refine TC.seq ?_
  refine TC.region ?_
  refine TL.nb (NB.boxA rfl) (Wants.un rfl) rfl (fun b1 => ?_)
  refine .q (LD.assign rfl) rfl rfl ?_
  refine TL.nilS ?_
  refine TC.seq ?_
  refine TC.region ?_
  refine .q (LD.ldA rfl m0 (by repeat constructor) rfl) rfl rfl ?_
  refine TL.cp (CL.func rfl) (w_there _) (Wants.un rfl) rfl ?_
  rintro _ rfl
  refine .q (LD.not rfl) rfl rfl ?_
  refine .q (LD.assign rfl) rfl rfl ?_
  refine TL.nilS ?_
  refine TC.ret ?_
  repeat first | refine Post.sr ?_ | refine Post.br ?_
  exact Out.intro (X := [_]) (L' := []) (Res.t rfl Res.z) ⟨rfl, rfl⟩ (.refl _)
open Mes in
theorem w_place (c : Cfg) (hc : CfgR c) (hok : c.ok = true) (a : List Mes.Way) (ha : (a.length : Int) = c.sets * c.ways) (p b : Nat) (hpb : p ≠ b) (line : Int) (hline : R64 line) : FnR Tryz.prog 142 [.pointer (some ⟨p, 0, none⟩), i line] (ArrF p b c a) (fun v => v = i (idxOf (placeOf c a line))) := by
  refine Fn.body Tryz.func142 rfl rfl rfl (Nat.le_of_ble_eq_true rfl) fun F => ?_
  refine TC.seq ?_
  refine TC.region ?_
  refine TL.nb (NB.box1 rfl rfl) (Wants.un rfl) rfl (fun b3 => ?_)
  refine .q (LD.assign rfl) rfl rfl ?_
  refine TL.nilS ?_
  refine TC.seq ?_
  refine TC.region ?_
  refine .q (LD.move rfl) rfl rfl ?_
  refine .q (LD.ld1 rfl m0 rfl) rfl rfl ?_
  refine TL.cr (CL.func rfl) (w_arrOf c hc hok a ha p b hpb line hline) (by first | exact .head _ | exact .tail _ (.head _) | exact .tail _ (.tail _ (.head _)) | exact .tail _ (.tail _ (.tail _ (.head _))) | exact .tail _ (.tail _ (.tail _ (.tail _ (.head _)))) | exact .tail _ (.tail _ (.tail _ (.tail _ (.tail _ (.head _))))) | exact .tail _ (.tail _ (.tail _ (.tail _ (.tail _ (.tail _ (.head _)))))) | exact .tail _ (.tail _ (.tail _ (.tail _ (.tail _ (.tail _ (.tail _ (.head _))))))) | exact .tail _ (.tail _ (.tail _ (.tail _ (.tail _ (.tail _ (.tail _ (.tail _ (.head _)))))))) | exact .tail _ (.tail _ (.tail _ (.tail _ (.tail _ (.tail _ (.tail _ (.tail _ (.tail _ (.head _))))))))) | exact .tail _ (.tail _ (.tail _ (.tail _ (.tail _ (.tail _ (.tail _ (.tail _ (.tail _ (.tail _ (.head _)))))))))) | exact .tail _ (.tail _ (.tail _ (.tail _ (.tail _ (.tail _ (.tail _ (.tail _ (.tail _ (.tail _ (.tail _ (.head _)))))))))))) (Wants.un rfl) rfl ?_
  rintro _ rfl
  obtain ⟨q, cap, hq, hrd⟩ := of_rd hok ha hpb line (p := p)
  rw [hq]
  refine .q (LD.makeFunc rfl rfl) rfl rfl ?_
  have hln : (waysOf c a line).length ≤ a.length := by
    unfold waysOf waysFrom
    split
    · simp only [List.length_take, List.length_drop]; omega
    · simp
  have hbs := base_in hok 0 (by omega)
  refine TL.cl (CL.func rfl) (w_IndexWay (waysOf c a line) encWay q cap (ArrF p b c a) hrd 197 [] [.pointer (some ⟨b3, 0, none⟩)] [blk b3 3 [i line].toArray] (has line) (by omega) (fun x _ => w_place1 x line b3)) (.swap ..) (Wants.un rfl) rfl ?_
  rintro _ _ ⟨rfl, rfl⟩
  refine .q (LD.assign rfl) rfl rfl ?_
  refine TL.nilS ?_
  refine TC.ret ?_
  repeat first | refine Post.sr ?_ | refine Post.br ?_
  exact Out.intro (X := [_]) (L' := [_]) (Res.t rfl Res.z) ⟨rfl, rfl⟩ (.swap ..)
open Mes in
theorem w_Free (c : Cfg) (hc : CfgR c) (hok : c.ok = true) (a : List Mes.Way) (ha : (a.length : Int) = c.sets * c.ways) (p b : Nat) (hpb : p ≠ b) (line : Int) (hline : R64 line) : FnR Tryz.prog 85 [.pointer (some ⟨p, 0, none⟩), i line] (ArrF p b c a) (fun v => v = i (idxOf (freeOf c a line))) := by
  refine Fn.body Tryz.func85 rfl rfl rfl (Nat.le_of_ble_eq_true rfl) fun F => ?_
  refine TC.seq ?_
  refine TC.region ?_
  refine .q (LD.assign rfl) rfl rfl ?_
  refine TL.nilS ?_
  refine TC.seq ?_
  refine TC.region ?_
  refine .q (LD.move rfl) rfl rfl ?_
  refine .q (LD.move rfl) rfl rfl ?_
  refine TL.cr (CL.func rfl) (w_arrOf c hc hok a ha p b hpb line hline) (by first | exact .head _ | exact .tail _ (.head _) | exact .tail _ (.tail _ (.head _)) | exact .tail _ (.tail _ (.tail _ (.head _))) | exact .tail _ (.tail _ (.tail _ (.tail _ (.head _)))) | exact .tail _ (.tail _ (.tail _ (.tail _ (.tail _ (.head _))))) | exact .tail _ (.tail _ (.tail _ (.tail _ (.tail _ (.tail _ (.head _)))))) | exact .tail _ (.tail _ (.tail _ (.tail _ (.tail _ (.tail _ (.tail _ (.head _))))))) | exact .tail _ (.tail _ (.tail _ (.tail _ (.tail _ (.tail _ (.tail _ (.tail _ (.head _)))))))) | exact .tail _ (.tail _ (.tail _ (.tail _ (.tail _ (.tail _ (.tail _ (.tail _ (.tail _ (.head _))))))))) | exact .tail _ (.tail _ (.tail _ (.tail _ (.tail _ (.tail _ (.tail _ (.tail _ (.tail _ (.tail _ (.head _)))))))))) | exact .tail _ (.tail _ (.tail _ (.tail _ (.tail _ (.tail _ (.tail _ (.tail _ (.tail _ (.tail _ (.tail _ (.head _)))))))))))) (Wants.un rfl) rfl ?_
  rintro _ rfl
  obtain ⟨q, cap, hq, hrd⟩ := of_rd hok ha hpb line (p := p)
  rw [hq]
  have hln : (waysOf c a line).length ≤ a.length := by
    unfold waysOf waysFrom
    split
    · simp only [List.length_take, List.length_drop]; omega
    · simp
  have hbs := base_in hok 0 (by omega)
  refine TL.cl (CL.func rfl) (w_IndexWay (waysOf c a line) encWay q cap (ArrF p b c a) hrd 165 [] [] [] (fun w => !w.there) (by omega) (fun x _ => w_Free1 x)) (.refl _) (Wants.un rfl) rfl ?_
  rintro _ _ ⟨rfl, rfl⟩
  refine .q (LD.assign rfl) rfl rfl ?_
  refine TL.nilS ?_
  refine TC.ret ?_
  repeat first | refine Post.sr ?_ | refine Post.br ?_
  exact Out.intro (X := []) (L' := [_]) (Res.t rfl Res.z) ⟨rfl, rfl⟩ (.refl _)

theorem idx_none {o : Option Nat} (h : idxOf o < 0) : o = none := by
  cases o with
  | none => rfl
  | some j => simp only [idxOf] at h; omega
theorem idx_some {o : Option Nat} (h : 0 ≤ idxOf o) : ∃ j, o = some j := by
  cases o with
  | none => simp [idxOf] at h
  | some j => exact ⟨j, rfl⟩
open Mes in
theorem place_get {c : Cfg} {a : List Mes.Way} {line : Int} {j : Nat} (h : placeOf c a line = some j) : ∃ w, (waysOf c a line)[j]? = some w ∧ j < (waysOf c a line).length ∧ has line w = true ∧ findWay c a line = some w := by
  have h' := h
  rw [placeOf, List.findIdx?_eq_some_iff_getElem] at h'
  obtain ⟨hj, hp, hno⟩ := h'
  refine ⟨_, List.getElem?_eq_getElem hj, hj, hp, ?_⟩
  rw [findWay, List.find?_eq_some_iff_getElem]
  exact ⟨hp, j, hj, rfl, fun k hk => by have := hno k hk; simpa using this⟩
open Mes in
def findV (c : Cfg) (a : List Mes.Way) (line : Int) : Value := match placeOf c a line with
  | some j => .tuple #[.agg (encWay ((waysOf c a line).getD j Mes.Way.none)).toArray, i j, .bool true]
  | none => .tuple #[.agg (encWay Mes.Way.none).toArray, i 0, .bool false]

open Mes in
theorem w_Find (c : Cfg) (hc : CfgR c) (hok : c.ok = true) (a : List Mes.Way) (ha : (a.length : Int) = c.sets * c.ways) (p b : Nat) (hpb : p ≠ b) (line : Int) (hline : R64 line) : FnR Tryz.prog 59 [.pointer (some ⟨p, 0, none⟩), i line] (ArrF p b c a) (fun v => v = findV c a line) := by
  refine Fn.body Tryz.func59 rfl rfl rfl (Nat.le_of_ble_eq_true rfl) fun F => ?_
  refine TC.seq ?_
  refine TC.region ?_
  refine TL.nb NB.alloc (Wants.un rfl) rfl (fun b4 => ?_)
  refine .q (LD.assign rfl) rfl rfl ?_
  refine .q (LD.assign rfl) rfl rfl ?_
  refine TL.nilS ?_
  refine TC.seq ?_
  refine TC.region ?_
  refine .q (LD.move rfl) rfl rfl ?_
  refine .q (LD.move rfl) rfl rfl ?_
  refine TL.cr (CL.func rfl) (w_place c hc hok a ha p b hpb line hline) (by first | exact .head _ | exact .tail _ (.head _) | exact .tail _ (.tail _ (.head _)) | exact .tail _ (.tail _ (.tail _ (.head _))) | exact .tail _ (.tail _ (.tail _ (.tail _ (.head _)))) | exact .tail _ (.tail _ (.tail _ (.tail _ (.tail _ (.head _))))) | exact .tail _ (.tail _ (.tail _ (.tail _ (.tail _ (.tail _ (.head _)))))) | exact .tail _ (.tail _ (.tail _ (.tail _ (.tail _ (.tail _ (.tail _ (.head _))))))) | exact .tail _ (.tail _ (.tail _ (.tail _ (.tail _ (.tail _ (.tail _ (.tail _ (.head _)))))))) | exact .tail _ (.tail _ (.tail _ (.tail _ (.tail _ (.tail _ (.tail _ (.tail _ (.tail _ (.head _))))))))) | exact .tail _ (.tail _ (.tail _ (.tail _ (.tail _ (.tail _ (.tail _ (.tail _ (.tail _ (.tail _ (.head _)))))))))) | exact .tail _ (.tail _ (.tail _ (.tail _ (.tail _ (.tail _ (.tail _ (.tail _ (.tail _ (.tail _ (.tail _ (.head _)))))))))))) (Wants.un rfl) rfl ?_
  rintro _ rfl
  refine .q (LD.assign rfl) rfl rfl ?_
  refine TL.nilS ?_
  refine TC.seq ?_
  refine TC.seq ?_
  refine TC.region ?_
  refine .q (LD.move rfl) rfl rfl ?_
  refine .q (LD.lss rfl rfl) rfl rfl ?_
  refine TL.nilS ?_
  refine TC.cond rfl (fun g1 => ?_) (fun g1 => ?_)
  · have h1 := g1
    try simp at h1
    refine TC.seq ?_
    refine TC.region ?_
    refine .q (LD.bS rfl rfl (by repeat constructor)) rfl rfl ?_
    refine .e (EF.stA (i := 0) rfl rfl rfl rfl rfl rfl (by repeat constructor)) rfl rfl ?_
    refine .q (LD.assign rfl) rfl rfl ?_
    refine .q (LD.assign rfl) rfl rfl ?_
    refine TL.nilS ?_
    refine TC.ret ?_
    repeat first | refine Post.sr ?_ | refine Post.br ?_
    exact Out.intro (X := [_]) (L' := [_]) (Res.c rfl (LV.aggL m0 (by repeat constructor) rfl) (Res.t rfl (Res.t rfl Res.z))) ⟨by rw [findV, idx_none h1]; rfl, rfl⟩ (.refl _)
  · have h1 := g1
    try simp at h1
    refine TC.skipS ?_
    refine TC.seq ?_
    refine TC.region ?_
    obtain ⟨j, hj⟩ := idx_some h1
    obtain ⟨w, hw, hjl, _, _⟩ := place_get hj
    rw [hj]
    refine .q (LD.move rfl) rfl rfl ?_
    refine .q (LD.move rfl) rfl rfl ?_
    refine TL.cr (CL.func rfl) (w_arrOf c hc hok a ha p b hpb line hline) (by first | exact .head _ | exact .tail _ (.head _) | exact .tail _ (.tail _ (.head _)) | exact .tail _ (.tail _ (.tail _ (.head _))) | exact .tail _ (.tail _ (.tail _ (.tail _ (.head _)))) | exact .tail _ (.tail _ (.tail _ (.tail _ (.tail _ (.head _))))) | exact .tail _ (.tail _ (.tail _ (.tail _ (.tail _ (.tail _ (.head _)))))) | exact .tail _ (.tail _ (.tail _ (.tail _ (.tail _ (.tail _ (.tail _ (.head _))))))) | exact .tail _ (.tail _ (.tail _ (.tail _ (.tail _ (.tail _ (.tail _ (.tail _ (.head _)))))))) | exact .tail _ (.tail _ (.tail _ (.tail _ (.tail _ (.tail _ (.tail _ (.tail _ (.tail _ (.head _))))))))) | exact .tail _ (.tail _ (.tail _ (.tail _ (.tail _ (.tail _ (.tail _ (.tail _ (.tail _ (.tail _ (.head _)))))))))) | exact .tail _ (.tail _ (.tail _ (.tail _ (.tail _ (.tail _ (.tail _ (.tail _ (.tail _ (.tail _ (.tail _ (.head _)))))))))))) (Wants.un rfl) rfl ?_
    rintro _ rfl
    obtain ⟨q, cap, hq, hrd⟩ := of_rd hok ha hpb line (p := p)
    rw [hq]
    refine .q (LD.move rfl) rfl rfl ?_
    have hne : (waysOf c a line).map encWay ≠ [] := by intro h0; rw [List.map_eq_nil_iff] at h0; rw [h0] at hjl; simp at hjl
    obtain ⟨ba, o, cs, T, fr, hq2, hb, hcs⟩ := hrd.got hne
    have he : ((waysOf c a line).map encWay)[j]? = some (encWay w) := by rw [List.getElem?_map, hw]; rfl
    refine .q (LD.indexAddr rfl rfl hq2 (by simp only [idxOf]; omega)) rfl rfl ?_
    refine .q (LD.elA (j := j) rfl m1 hb hcs hrd.len he) rfl rfl ?_
    refine .q (LD.move rfl) rfl rfl ?_
    refine .e (EF.stA (i := 0) rfl rfl rfl rfl rfl rfl (by repeat constructor)) rfl rfl ?_
    refine .q (LD.assign rfl) rfl rfl ?_
    refine .q (LD.assign rfl) rfl rfl ?_
    refine TL.nilS ?_
    refine TC.ret ?_
    repeat first | refine Post.sr ?_ | refine Post.br ?_
    exact Out.intro (X := [_]) (L' := [_]) (Res.c rfl (LV.aggL m0 (by repeat constructor) rfl) (Res.t rfl (Res.t rfl Res.z))) ⟨by simp only [findV, hj, show (waysOf c a line).getD j Mes.Way.none = w from by rw [List.getD_eq_getElem?_getD, hw]; rfl]; rfl, rfl⟩ (.refl _)

open Mes in
theorem place_in {c : Cfg} {a : List Mes.Way} {line : Int} {j : Nat} (h : placeOf c a line = some j) : inR line c.lines = true ∧ ∃ w, a[baseOf c line + j]? = some w ∧ (waysOf c a line)[j]? = some w ∧ j < c.ways.toNat := by
  obtain ⟨w, hw, hjl, _, _⟩ := place_get h
  cases hin : inR line c.lines
  · simp [waysOf, hin] at hjl
  · refine ⟨rfl, w, ?_, hw, ?_⟩
    · simp only [waysOf, hin, if_true, waysFrom] at hw
      rw [List.getElem?_take] at hw
      split at hw
      · rw [List.getElem?_drop] at hw; exact hw
      · cases hw
    · simp only [waysOf, hin, if_true, waysFrom, List.length_take] at hjl; omega
theorem upd_set {c : Mes.Cfg} {a : List Mes.Way} {line : Int} {j : Nat} {w : Mes.Way} (hj : Mes.placeOf c a line = some j) (hw : a[Mes.baseOf c line + j]? = some w) (f : Mes.Way → Mes.Way) : Mes.updWay c a line f = a.set (Mes.baseOf c line + j) (f w) := by
  simp only [Mes.updWay, hj]
  apply List.ext_getElem?
  intro k
  rw [List.getElem?_modify, List.getElem?_set]
  split
  · rename_i e; subst e; rw [hw]; have := (List.getElem?_eq_some_iff.1 hw).1; simp [this]
  · simp
theorem idx_m1 (o : Option Nat) : idxOf o = -1 ↔ o = none := by
  cases o with
  | none => simp [idxOf]
  | some j => simp only [idxOf]; constructor <;> intro h <;> first | omega | cases h

open Mes in
theorem w_Lock (c : Cfg) (hc : CfgR c) (hok : c.ok = true) (a : List Mes.Way) (ha : (a.length : Int) = c.sets * c.ways) (p b : Nat) (hpb : p ≠ b) (line : Int) (hline : R64 line) (lk : Bool) : FnW Tryz.prog 87 [.pointer (some ⟨p, 0, none⟩), i line, .bool lk] (ArrF p b c a) (fun v r => v = i (bif (placeOf c a line).isSome then 0 else 5) ∧ r = ArrF p b c (lockWay c a line lk)) := by
  refine Fn.body Tryz.func87 rfl rfl rfl (Nat.le_of_ble_eq_true rfl) fun F => ?_
  refine TC.seq ?_
  refine TC.region ?_
  refine .q (LD.assign rfl) rfl rfl ?_
  refine TL.nilS ?_
  refine TC.seq ?_
  refine TC.region ?_
  refine .q (LD.move rfl) rfl rfl ?_
  refine .q (LD.move rfl) rfl rfl ?_
  refine TL.cr (CL.func rfl) (w_place c hc hok a ha p b hpb line hline) (by first | exact .head _ | exact .tail _ (.head _) | exact .tail _ (.tail _ (.head _)) | exact .tail _ (.tail _ (.tail _ (.head _))) | exact .tail _ (.tail _ (.tail _ (.tail _ (.head _)))) | exact .tail _ (.tail _ (.tail _ (.tail _ (.tail _ (.head _))))) | exact .tail _ (.tail _ (.tail _ (.tail _ (.tail _ (.tail _ (.head _)))))) | exact .tail _ (.tail _ (.tail _ (.tail _ (.tail _ (.tail _ (.tail _ (.head _))))))) | exact .tail _ (.tail _ (.tail _ (.tail _ (.tail _ (.tail _ (.tail _ (.tail _ (.head _)))))))) | exact .tail _ (.tail _ (.tail _ (.tail _ (.tail _ (.tail _ (.tail _ (.tail _ (.tail _ (.head _))))))))) | exact .tail _ (.tail _ (.tail _ (.tail _ (.tail _ (.tail _ (.tail _ (.tail _ (.tail _ (.tail _ (.head _)))))))))) | exact .tail _ (.tail _ (.tail _ (.tail _ (.tail _ (.tail _ (.tail _ (.tail _ (.tail _ (.tail _ (.tail _ (.head _)))))))))))) (Wants.un rfl) rfl ?_
  rintro _ rfl
  refine .q (LD.assign rfl) rfl rfl ?_
  refine TL.nilS ?_
  refine TC.seq ?_
  refine TC.seq ?_
  refine TC.region ?_
  refine .q (LD.move rfl) rfl rfl ?_
  refine .q (LD.eql rfl rfl) rfl rfl ?_
  refine TL.nilS ?_
  refine TC.cond rfl (fun g1 => ?_) (fun g1 => ?_)
  · have h1 := g1
    try simp at h1
    refine TC.seq ?_
    refine TC.region ?_
    refine .q (LD.assign rfl) rfl rfl ?_
    refine TL.nilS ?_
    refine TC.ret ?_
    repeat first | refine Post.sr ?_ | refine Post.br ?_
    exact Out.intro (X := []) (L' := [_]) (Res.t rfl Res.z) ⟨_, ⟨by rw [(idx_m1 _).1 h1]; rfl, by rw [lockWay, updWay, (idx_m1 _).1 h1]⟩, rfl⟩ (.refl _)
  · have h1 := g1
    try simp at h1
    refine TC.skipS ?_
    refine TC.seq ?_
    refine TC.region ?_
    have hnn : placeOf c a line ≠ none := fun h0 => h1 ((idx_m1 _).2 h0)
    obtain ⟨j, hj⟩ : ∃ j, placeOf c a line = some j := by cases h0 : placeOf c a line with | none => exact absurd h0 hnn | some j => exact ⟨j, rfl⟩
    obtain ⟨hin, w, hw, hw2, hjl⟩ := place_in hj
    have he : (a.map encWay)[baseOf c line + j]? = some (encWay w) := by rw [List.getElem?_map, hw]; rfl
    rw [hj]
    refine .q (LD.move rfl) rfl rfl ?_
    refine .q (LD.move rfl) rfl rfl ?_
    refine TL.cr (CL.func rfl) (w_arrOf c hc hok a ha p b hpb line hline) (by first | exact .head _ | exact .tail _ (.head _) | exact .tail _ (.tail _ (.head _)) | exact .tail _ (.tail _ (.tail _ (.head _))) | exact .tail _ (.tail _ (.tail _ (.tail _ (.head _)))) | exact .tail _ (.tail _ (.tail _ (.tail _ (.tail _ (.head _))))) | exact .tail _ (.tail _ (.tail _ (.tail _ (.tail _ (.tail _ (.head _)))))) | exact .tail _ (.tail _ (.tail _ (.tail _ (.tail _ (.tail _ (.tail _ (.head _))))))) | exact .tail _ (.tail _ (.tail _ (.tail _ (.tail _ (.tail _ (.tail _ (.tail _ (.head _)))))))) | exact .tail _ (.tail _ (.tail _ (.tail _ (.tail _ (.tail _ (.tail _ (.tail _ (.tail _ (.head _))))))))) | exact .tail _ (.tail _ (.tail _ (.tail _ (.tail _ (.tail _ (.tail _ (.tail _ (.tail _ (.tail _ (.head _)))))))))) | exact .tail _ (.tail _ (.tail _ (.tail _ (.tail _ (.tail _ (.tail _ (.tail _ (.tail _ (.tail _ (.tail _ (.head _)))))))))))) (Wants.un rfl) rfl ?_
    rintro _ rfl
    rw [ofV, hin]
    refine .q (LD.move rfl) rfl rfl ?_
    refine .q (LD.move rfl) rfl rfl ?_
    refine .q (LD.indexAddr rfl rfl rfl (by simp only [idxOf]; omega)) rfl rfl ?_
    refine .q (LD.fieldAddr rfl) rfl rfl ?_
    refine TL.unfold (pair_disj (blk_disj hpb)) ?_
    refine .e (EF.el1 (J := baseOf c line + j) (f := 10) (i := 1) rfl rfl rfl (by simp only [idxOf]; omega) (encWay_len a) he (by omega) rfl) rfl rfl ?_
    refine TL.nilS ?_
    refine TC.seq ?_
    refine TC.region ?_
    refine .q (LD.assign rfl) rfl rfl ?_
    refine TL.nilS ?_
    refine TC.ret ?_
    repeat first | refine Post.sr ?_ | refine Post.br ?_
    refine Out.introE (X := []) (L0 := [_, _]) (L' := [_]) (Res.t rfl Res.z) ⟨_, ⟨rfl, ?_⟩, rfl⟩ (.refl _) (Ent.fold _)
    rw [lockWay, upd_set hj hw, ArrF, List.length_set, List.map_set]; rfl

open Mes in
def atV (c : Cfg) (a : List Mes.Way) (set way : Int) : Value := match wayAt c a set way with
  | some w => .tuple #[.agg (encWay w).toArray, .bool true]
  | none => .tuple #[.agg (encWay Mes.Way.none).toArray, .bool false]

open Mes in
theorem w_At (c : Cfg) (hok : c.ok = true) (a : List Mes.Way) (ha : (a.length : Int) = c.sets * c.ways) (p b : Nat) (hpb : p ≠ b) (set way : Int) : FnR Tryz.prog 69 [.pointer (some ⟨p, 0, none⟩), i set, i way] (ArrF p b c a) (fun v => v = atV c a set way) := by
  refine Fn.body Tryz.func69 rfl rfl rfl (Nat.le_of_ble_eq_true rfl) fun F => ?_
  refine TC.seq ?_
  refine TC.region ?_
  refine TL.nb NB.alloc (Wants.un rfl) rfl (fun b6 => ?_)
  refine .q (LD.assign rfl) rfl rfl ?_
  refine TL.nilS ?_
  refine TC.seq ?_
  refine TC.seq ?_
  refine TC.region ?_
  refine .q (LD.move rfl) rfl rfl ?_
  refine .q (LD.lss rfl rfl) rfl rfl ?_
  refine .q (LD.move rfl) rfl rfl ?_
  refine TL.split rfl rfl rfl rfl (fun g1 => ?_) (fun g1 => ?_)
  · have h1 := g1
    try simp at h1
    refine .y (LD.move rfl) g1 rfl rfl rfl rfl ?_
    refine .y (LD.move rfl) g1 rfl rfl rfl rfl ?_
    refine .y (LD.nilCheck rfl) g1 rfl rfl rfl rfl ?_
    refine .y (LD.fieldAddr rfl) g1 rfl rfl rfl rfl ?_
    refine .y (LD.fieldAddr rfl) g1 rfl rfl rfl rfl ?_
    refine .y (LD.ld1f rfl m1 arr_p rfl) g1 rfl rfl rfl rfl ?_
    refine .y (LD.geq rfl rfl) g1 rfl rfl rfl rfl ?_
    refine .q (LD.pickF rfl g1 rfl) rfl rfl ?_
    refine .q (LD.move rfl) rfl rfl ?_
    refine TL.split rfl rfl rfl rfl (fun g2 => ?_) (fun g2 => ?_)
    · have h2 := g2
      try simp at h2
      refine .y (LD.move rfl) g2 rfl rfl rfl rfl ?_
      refine .y (LD.lss rfl rfl) g2 rfl rfl rfl rfl ?_
      refine .q (LD.pickF rfl g2 rfl) rfl rfl ?_
      refine .q (LD.move rfl) rfl rfl ?_
      refine TL.split rfl rfl rfl rfl (fun g3 => ?_) (fun g3 => ?_)
      · have h3 := g3
        try simp at h3
        refine .y (LD.move rfl) g3 rfl rfl rfl rfl ?_
        refine .y (LD.move rfl) g3 rfl rfl rfl rfl ?_
        refine .y (LD.nilCheck rfl) g3 rfl rfl rfl rfl ?_
        refine .y (LD.fieldAddr rfl) g3 rfl rfl rfl rfl ?_
        refine .y (LD.fieldAddr rfl) g3 rfl rfl rfl rfl ?_
        refine .y (LD.ld1f rfl m1 arr_p rfl) g3 rfl rfl rfl rfl ?_
        refine .y (LD.geq rfl rfl) g3 rfl rfl rfl rfl ?_
        refine .q (LD.pickF rfl g3 rfl) rfl rfl ?_
        refine TL.nilS ?_
        refine TC.cond rfl (fun g4 => ?_) (fun g4 => ?_)
        · have h4 := g4
          try simp at h4
          refine TC.seq ?_
          refine TC.region ?_
          refine .q (LD.bS rfl rfl (by repeat constructor)) rfl rfl ?_
          refine .e (EF.stA (i := 0) rfl rfl rfl rfl rfl rfl (by repeat constructor)) rfl rfl ?_
          refine .q (LD.assign rfl) rfl rfl ?_
          refine TL.nilS ?_
          refine TC.ret ?_
          repeat first | refine Post.sr ?_ | refine Post.br ?_
          exact Out.intro (X := [_]) (L' := [_]) (Res.c rfl (LV.aggL m0 (by repeat constructor) rfl) (Res.t rfl Res.z)) ⟨by simp only [atV, show wayAt c a set way = none from by rw [wayAt, if_neg (by simp [inR] <;> omega)]]; rfl, rfl⟩ (.refl _)
        · have h4 := g4
          try simp at h4
          refine TC.skipS ?_
          refine TC.seq ?_
          refine TC.region ?_
          have hs1 : set % c.sets = set := Int.emod_eq_of_lt (by omega) (by omega)
          have hbi := base_in hok set (by omega)
          rw [hs1] at hbi
          have hways := (okS hok).ways
          obtain ⟨w, hw⟩ : ∃ w, a[(set * c.ways).toNat + way.toNat]? = some w := ⟨_, List.getElem?_eq_getElem (by omega)⟩
          have he : (a.map encWay)[(set * c.ways).toNat + way.toNat]? = some (encWay w) := by rw [List.getElem?_map, hw]; rfl
          refine .q (LD.move rfl) rfl rfl ?_
          refine .q (LD.move rfl) rfl rfl ?_
          refine TL.cr (CL.func rfl) (w_ways c a p b hpb set ⟨hbi.2.2.1, by omega, hways.1, by omega⟩) (by first | exact .head _ | exact .tail _ (.head _) | exact .tail _ (.tail _ (.head _)) | exact .tail _ (.tail _ (.tail _ (.head _))) | exact .tail _ (.tail _ (.tail _ (.tail _ (.head _)))) | exact .tail _ (.tail _ (.tail _ (.tail _ (.tail _ (.head _))))) | exact .tail _ (.tail _ (.tail _ (.tail _ (.tail _ (.tail _ (.head _)))))) | exact .tail _ (.tail _ (.tail _ (.tail _ (.tail _ (.tail _ (.tail _ (.head _))))))) | exact .tail _ (.tail _ (.tail _ (.tail _ (.tail _ (.tail _ (.tail _ (.tail _ (.head _)))))))) | exact .tail _ (.tail _ (.tail _ (.tail _ (.tail _ (.tail _ (.tail _ (.tail _ (.tail _ (.head _))))))))) | exact .tail _ (.tail _ (.tail _ (.tail _ (.tail _ (.tail _ (.tail _ (.tail _ (.tail _ (.tail _ (.head _)))))))))) | exact .tail _ (.tail _ (.tail _ (.tail _ (.tail _ (.tail _ (.tail _ (.tail _ (.tail _ (.tail _ (.tail _ (.head _)))))))))))) (Wants.un rfl) rfl ?_
          rintro _ rfl
          refine .q (LD.move rfl) rfl rfl ?_
          refine .q (LD.indexAddr rfl rfl (by first | rfl | assumption) (by omega)) rfl rfl ?_
          refine .q (LD.elAo (o := 0) (j := (set * c.ways).toNat + way.toNat) rfl (by omega) m1 (arr_b hpb) (fun j v h => by simpa using h) (encWay_len a) he) rfl rfl ?_
          refine .e (EF.stA (i := 0) rfl rfl rfl rfl rfl rfl (by repeat constructor)) rfl rfl ?_
          refine .q (LD.assign rfl) rfl rfl ?_
          refine TL.nilS ?_
          refine TC.ret ?_
          repeat first | refine Post.sr ?_ | refine Post.br ?_
          exact Out.intro (X := [_]) (L' := [_]) (Res.c rfl (LV.aggL m0 (by repeat constructor) rfl) (Res.t rfl Res.z)) ⟨by simp only [atV, show wayAt c a set way = some w from by rw [wayAt, if_pos (by simp [inR]; omega), show (set * c.ways + way).toNat = (set * c.ways).toNat + way.toNat by omega]; exact hw]; rfl, rfl⟩ (.refl _)
      · have h3 := g3
        try simp at h3
        refine .s g3 rfl rfl rfl rfl ?_
        refine .s g3 rfl rfl rfl rfl ?_
        refine .s g3 rfl rfl rfl rfl ?_
        refine .s g3 rfl rfl rfl rfl ?_
        refine .s g3 rfl rfl rfl rfl ?_
        refine .s g3 rfl rfl rfl rfl ?_
        refine .q (LD.pickT rfl g3 rfl) rfl rfl ?_
        refine TL.nilS ?_
        refine TC.condT rfl rfl ?_
        refine TC.seq ?_
        refine TC.region ?_
        refine .q (LD.bS rfl rfl (by repeat constructor)) rfl rfl ?_
        refine .e (EF.stA (i := 0) rfl rfl rfl rfl rfl rfl (by repeat constructor)) rfl rfl ?_
        refine .q (LD.assign rfl) rfl rfl ?_
        refine TL.nilS ?_
        refine TC.ret ?_
        repeat first | refine Post.sr ?_ | refine Post.br ?_
        exact Out.intro (X := [_]) (L' := [_]) (Res.c rfl (LV.aggL m0 (by repeat constructor) rfl) (Res.t rfl Res.z)) ⟨by simp only [atV, show wayAt c a set way = none from by rw [wayAt, if_neg (by simp [inR] <;> omega)]]; rfl, rfl⟩ (.refl _)
    · have h2 := g2
      try simp at h2
      refine .s g2 rfl rfl rfl rfl ?_
      refine .q (LD.pickT rfl g2 rfl) rfl rfl ?_
      refine .q (LD.move rfl) rfl rfl ?_
      refine .s rfl rfl rfl rfl rfl ?_
      refine .s rfl rfl rfl rfl rfl ?_
      refine .s rfl rfl rfl rfl rfl ?_
      refine .s rfl rfl rfl rfl rfl ?_
      refine .s rfl rfl rfl rfl rfl ?_
      refine .s rfl rfl rfl rfl rfl ?_
      refine .s rfl rfl rfl rfl rfl ?_
      refine .q (LD.pickT rfl rfl rfl) rfl rfl ?_
      refine TL.nilS ?_
      refine TC.condT rfl rfl ?_
      refine TC.seq ?_
      refine TC.region ?_
      refine .q (LD.bS rfl rfl (by repeat constructor)) rfl rfl ?_
      refine .e (EF.stA (i := 0) rfl rfl rfl rfl rfl rfl (by repeat constructor)) rfl rfl ?_
      refine .q (LD.assign rfl) rfl rfl ?_
      refine TL.nilS ?_
      refine TC.ret ?_
      repeat first | refine Post.sr ?_ | refine Post.br ?_
      exact Out.intro (X := [_]) (L' := [_]) (Res.c rfl (LV.aggL m0 (by repeat constructor) rfl) (Res.t rfl Res.z)) ⟨by simp only [atV, show wayAt c a set way = none from by rw [wayAt, if_neg (by simp [inR] <;> omega)]]; rfl, rfl⟩ (.refl _)
  · have h1 := g1
    try simp at h1
    refine .s g1 rfl rfl rfl rfl ?_
    refine .s g1 rfl rfl rfl rfl ?_
    refine .s g1 rfl rfl rfl rfl ?_
    refine .s g1 rfl rfl rfl rfl ?_
    refine .s g1 rfl rfl rfl rfl ?_
    refine .s g1 rfl rfl rfl rfl ?_
    refine .q (LD.pickT rfl g1 rfl) rfl rfl ?_
    refine .q (LD.move rfl) rfl rfl ?_
    refine .s rfl rfl rfl rfl rfl ?_
    refine .s rfl rfl rfl rfl rfl ?_
    refine .q (LD.pickT rfl rfl rfl) rfl rfl ?_
    refine .q (LD.move rfl) rfl rfl ?_
    refine .s rfl rfl rfl rfl rfl ?_
    refine .s rfl rfl rfl rfl rfl ?_
    refine .s rfl rfl rfl rfl rfl ?_
    refine .s rfl rfl rfl rfl rfl ?_
    refine .s rfl rfl rfl rfl rfl ?_
    refine .s rfl rfl rfl rfl rfl ?_
    refine .s rfl rfl rfl rfl rfl ?_
    refine .q (LD.pickT rfl rfl rfl) rfl rfl ?_
    refine TL.nilS ?_
    refine TC.condT rfl rfl ?_
    refine TC.seq ?_
    refine TC.region ?_
    refine .q (LD.bS rfl rfl (by repeat constructor)) rfl rfl ?_
    refine .e (EF.stA (i := 0) rfl rfl rfl rfl rfl rfl (by repeat constructor)) rfl rfl ?_
    refine .q (LD.assign rfl) rfl rfl ?_
    refine TL.nilS ?_
    refine TC.ret ?_
    repeat first | refine Post.sr ?_ | refine Post.br ?_
    exact Out.intro (X := [_]) (L' := [_]) (Res.c rfl (LV.aggL m0 (by repeat constructor) rfl) (Res.t rfl Res.z)) ⟨by simp only [atV, show wayAt c a set way = none from by rw [wayAt, if_neg (by simp [inR] <;> omega)]]; rfl, rfl⟩ (.refl _)

open Mes in
theorem ways_get {c : Cfg} {a : List Mes.Way} {line : Int} {j : Nat} {w : Mes.Way} (hw : (waysOf c a line)[j]? = some w) : inR line c.lines = true ∧ a[baseOf c line + j]? = some w := by
  cases hin : inR line c.lines
  · simp [waysOf, hin] at hw
  · refine ⟨rfl, ?_⟩
    simp only [waysOf, hin, if_true, waysFrom] at hw
    rw [List.getElem?_take] at hw
    split at hw
    · rw [List.getElem?_drop] at hw; exact hw
    · cases hw
open Mes in
def layE (c : Cfg) (a : List Mes.Way) (line way : Int) : Int :=
  if way < 0 ∨ ((waysOf c a line).length : Int) ≤ way then 1 else if (placeOf c a line).isSome then 6 else if ((waysOf c a line).getD way.toNat Mes.Way.none).there then 4 else 0

open Mes in
theorem w_Lay (c : Cfg) (hc : CfgR c) (hok : c.ok = true) (a : List Mes.Way) (ha : (a.length : Int) = c.sets * c.ways) (p b : Nat) (hpb : p ≠ b) (line : Int) (hline : R64 line) (way : Int) : FnW Tryz.prog 88 [.pointer (some ⟨p, 0, none⟩), i line, i way] (ArrF p b c a) (fun v r => v = i (layE c a line way) ∧ r = ArrF p b c (if layE c a line way = 0 then layWay c a line way.toNat else a)) := by
  refine Fn.body Tryz.func88 rfl rfl rfl (Nat.le_of_ble_eq_true rfl) fun F => ?_
  refine TC.seq ?_
  refine TC.region ?_
  refine .q (LD.assign rfl) rfl rfl ?_
  refine TL.nilS ?_
  refine TC.seq ?_
  refine TC.region ?_
  refine .q (LD.move rfl) rfl rfl ?_
  refine .q (LD.move rfl) rfl rfl ?_
  refine TL.cr (CL.func rfl) (w_arrOf c hc hok a ha p b hpb line hline) (by first | exact .head _ | exact .tail _ (.head _) | exact .tail _ (.tail _ (.head _)) | exact .tail _ (.tail _ (.tail _ (.head _))) | exact .tail _ (.tail _ (.tail _ (.tail _ (.head _)))) | exact .tail _ (.tail _ (.tail _ (.tail _ (.tail _ (.head _))))) | exact .tail _ (.tail _ (.tail _ (.tail _ (.tail _ (.tail _ (.head _)))))) | exact .tail _ (.tail _ (.tail _ (.tail _ (.tail _ (.tail _ (.tail _ (.head _))))))) | exact .tail _ (.tail _ (.tail _ (.tail _ (.tail _ (.tail _ (.tail _ (.tail _ (.head _)))))))) | exact .tail _ (.tail _ (.tail _ (.tail _ (.tail _ (.tail _ (.tail _ (.tail _ (.tail _ (.head _))))))))) | exact .tail _ (.tail _ (.tail _ (.tail _ (.tail _ (.tail _ (.tail _ (.tail _ (.tail _ (.tail _ (.head _)))))))))) | exact .tail _ (.tail _ (.tail _ (.tail _ (.tail _ (.tail _ (.tail _ (.tail _ (.tail _ (.tail _ (.tail _ (.head _)))))))))))) (Wants.un rfl) rfl ?_
  rintro _ rfl
  obtain ⟨q, cap, hq, hrd⟩ := of_rd hok ha hpb line (p := p)
  rw [hq]
  refine .q (LD.assign rfl) rfl rfl ?_
  refine TL.nilS ?_
  refine TC.seq ?_
  refine TC.block ?_
  refine TC.seq ?_
  refine TC.region ?_
  refine .q (LD.move rfl) rfl rfl ?_
  refine .q (LD.lss rfl rfl) rfl rfl ?_
  refine .q (LD.move rfl) rfl rfl ?_
  refine TL.split rfl rfl rfl rfl (fun g1 => ?_) (fun g1 => ?_)
  · have h1 := g1
    try simp at h1
    refine .y (LD.move rfl) g1 rfl rfl rfl rfl ?_
    refine .y (LD.move rfl) g1 rfl rfl rfl rfl ?_
    refine .y (LD.lenS rfl rfl Tryz.underlying232) g1 rfl rfl rfl rfl ?_
    refine .y (LD.geq rfl rfl) g1 rfl rfl rfl rfl ?_
    refine .q (LD.pickF rfl g1 rfl) rfl rfl ?_
    refine .q (LD.assign rfl) rfl rfl ?_
    refine TL.nilS ?_
    refine TC.cond rfl (fun g2 => ?_) (fun g2 => ?_)
    · have h2 := g2
      try simp at h2
      refine TC.seq ?_
      refine TC.region ?_
      refine .q (LD.assign rfl) rfl rfl ?_
      refine TL.nilS ?_
      refine TC.ret ?_
      repeat first | refine Post.sr ?_ | refine Post.br ?_
      have hl : layE c a line way = 1 := by unfold layE; rw [if_pos (by omega)]
      exact Out.intro (X := []) (L' := [_]) (Res.t rfl Res.z) ⟨_, ⟨by rw [hl]; rfl, by rw [hl]; rfl⟩, rfl⟩ (.refl _)
    · have h2 := g2
      try simp at h2
      refine TC.seq ?_
      refine TC.region ?_
      refine .q (LD.move rfl) rfl rfl ?_
      refine .q (LD.move rfl) rfl rfl ?_
      refine TL.cr (CL.func rfl) (w_place c hc hok a ha p b hpb line hline) (by first | exact .head _ | exact .tail _ (.head _) | exact .tail _ (.tail _ (.head _)) | exact .tail _ (.tail _ (.tail _ (.head _))) | exact .tail _ (.tail _ (.tail _ (.tail _ (.head _)))) | exact .tail _ (.tail _ (.tail _ (.tail _ (.tail _ (.head _))))) | exact .tail _ (.tail _ (.tail _ (.tail _ (.tail _ (.tail _ (.head _)))))) | exact .tail _ (.tail _ (.tail _ (.tail _ (.tail _ (.tail _ (.tail _ (.head _))))))) | exact .tail _ (.tail _ (.tail _ (.tail _ (.tail _ (.tail _ (.tail _ (.tail _ (.head _)))))))) | exact .tail _ (.tail _ (.tail _ (.tail _ (.tail _ (.tail _ (.tail _ (.tail _ (.tail _ (.head _))))))))) | exact .tail _ (.tail _ (.tail _ (.tail _ (.tail _ (.tail _ (.tail _ (.tail _ (.tail _ (.tail _ (.head _)))))))))) | exact .tail _ (.tail _ (.tail _ (.tail _ (.tail _ (.tail _ (.tail _ (.tail _ (.tail _ (.tail _ (.tail _ (.head _)))))))))))) (Wants.un rfl) rfl ?_
      rintro _ rfl
      refine .q (LD.neq rfl rfl) rfl rfl ?_
      refine .q (LD.assign rfl) rfl rfl ?_
      refine TL.nilS ?_
      refine TC.cond rfl (fun g3 => ?_) (fun g3 => ?_)
      · have h3 := g3
        try simp at h3
        refine TC.seq ?_
        refine TC.region ?_
        refine .q (LD.assign rfl) rfl rfl ?_
        refine TL.nilS ?_
        refine TC.ret ?_
        repeat first | refine Post.sr ?_ | refine Post.br ?_
        have hl : layE c a line way = 6 := by
          have hs : (placeOf c a line).isSome = true := by
            cases h0 : placeOf c a line with
            | none => rw [h0] at h3; simp [idxOf] at h3
            | some j => rfl
          unfold layE; rw [if_neg (by omega), if_pos hs]
        exact Out.intro (X := []) (L' := [_]) (Res.t rfl Res.z) ⟨_, ⟨by rw [hl]; rfl, by rw [hl]; rfl⟩, rfl⟩ (.refl _)
      · have h3 := g3
        try simp at h3
        refine TC.seq ?_
        refine TC.region ?_
        have hpl : placeOf c a line = none := (idx_m1 _).1 (by simpa using h3)
        obtain ⟨w, hw⟩ : ∃ w, (waysOf c a line)[way.toNat]? = some w := ⟨_, List.getElem?_eq_getElem (by omega)⟩
        have hg : (waysOf c a line).getD way.toNat Mes.Way.none = w := by rw [List.getD_eq_getElem?_getD, hw]; rfl
        have hne : (waysOf c a line).map encWay ≠ [] := by intro h0; rw [List.map_eq_nil_iff] at h0; rw [h0] at hw; simp at hw
        obtain ⟨ba, o, cs, T, fr, hq2, hb, hcs⟩ := hrd.got hne
        have he : ((waysOf c a line).map encWay)[way.toNat]? = some (encWay w) := by rw [List.getElem?_map, hw]; rfl
        refine .q (LD.move rfl) rfl rfl ?_
        refine .q (LD.move rfl) rfl rfl ?_
        refine .q (LD.indexAddr rfl rfl hq2 (by omega)) rfl rfl ?_
        refine .q (LD.elA (j := way.toNat) rfl m0 hb hcs hrd.len he) rfl rfl ?_
        refine TL.cp (CL.func rfl) (w_there _) (Wants.un rfl) rfl ?_
        rintro _ rfl
        refine .q (LD.assign rfl) rfl rfl ?_
        refine TL.nilS ?_
        refine TC.cond rfl (fun g4 => ?_) (fun g4 => ?_)
        · have h4 := g4
          try simp at h4
          refine TC.seq ?_
          refine TC.region ?_
          refine .q (LD.assign rfl) rfl rfl ?_
          refine TL.nilS ?_
          refine TC.ret ?_
          repeat first | refine Post.sr ?_ | refine Post.br ?_
          have hl : layE c a line way = 4 := by
            have hth : w.there = true := by simpa using h4
            unfold layE; rw [if_neg (by omega), hpl, hg, hth]; rfl
          exact Out.intro (X := []) (L' := [_]) (Res.t rfl Res.z) ⟨_, ⟨by rw [hl]; rfl, by rw [hl]; rfl⟩, rfl⟩ (.refl _)
        · have h4 := g4
          try simp at h4
          refine TC.skip ?_
          refine TC.seq ?_
          refine TC.region ?_
          have hl : layE c a line way = 0 := by
            have hth : w.there = false := by simpa using h4
            unfold layE; rw [if_neg (by omega), hpl, hg, hth]; rfl
          obtain ⟨hin, hwa⟩ := ways_get hw
          rw [ofV, hin] at hq
          injection hq with hq1 hq3 hq4
          subst hq1
          have he2 : (a.map encWay)[baseOf c line + way.toNat]? = some (encWay w) := by rw [List.getElem?_map, hwa]; rfl
          refine .q (LD.move rfl) rfl rfl ?_
          refine .q (LD.move rfl) rfl rfl ?_
          refine .q (LD.move rfl) rfl rfl ?_
          refine .q (LD.bS rfl rfl (by repeat constructor)) rfl rfl ?_
          refine .q (LD.indexAddr rfl rfl rfl (by omega)) rfl rfl ?_
          refine TL.unfold (pair_disj (blk_disj hpb)) ?_
          refine .e (EF.elA (J := baseOf c line + way.toNat) (f := 0) (i := 1) rfl rfl rfl rfl (by omega) (encWay_len a) he2 (by omega) rfl) rfl rfl ?_
          refine TL.nilS ?_
          refine TC.seq ?_
          refine TC.region ?_
          refine .q (LD.assign rfl) rfl rfl ?_
          refine TL.nilS ?_
          refine TC.ret ?_
          repeat first | refine Post.sr ?_ | refine Post.br ?_
          refine Out.introE (X := []) (L0 := [_, _]) (L' := [_]) (Res.t rfl Res.z) ⟨_, ⟨by rw [hl]; rfl, ?_⟩, rfl⟩ (.refl _) (Ent.fold _)
          rw [hl, if_pos rfl, layWay, ArrF, List.length_set, List.map_set]; rfl
  · have h1 := g1
    try simp at h1
    refine .s g1 rfl rfl rfl rfl ?_
    refine .s g1 rfl rfl rfl rfl ?_
    refine .s g1 rfl rfl rfl rfl ?_
    refine .q (LD.pickT rfl g1 rfl) rfl rfl ?_
    refine .q (LD.assign rfl) rfl rfl ?_
    refine TL.nilS ?_
    refine TC.condT rfl rfl ?_
    refine TC.seq ?_
    refine TC.region ?_
    refine .q (LD.assign rfl) rfl rfl ?_
    refine TL.nilS ?_
    refine TC.ret ?_
    repeat first | refine Post.sr ?_ | refine Post.br ?_
    have hl : layE c a line way = 1 := by unfold layE; rw [if_pos (by omega)]
    exact Out.intro (X := []) (L' := [_]) (Res.t rfl Res.z) ⟨_, ⟨by rw [hl]; rfl, by rw [hl]; rfl⟩, rfl⟩ (.refl _)

open Mes in
theorem sw_nat {c : Cfg} (hok : c.ok = true) : ∃ m : Nat, c.sets * c.ways = m ∧ m ≤ 512 := by
  have hs := okS hok
  obtain ⟨j1, _, e1, e1'⟩ := hs.sets
  have p1 := pow_pos j1
  have hw := hs.ways
  have h3 : c.sets * c.ways ≤ 64 * 8 := Int.mul_le_mul (by omega) (by omega) (by omega) (by omega)
  have h4 : 0 ≤ c.sets * c.ways := Int.mul_nonneg (by omega) (by omega)
  exact ⟨(c.sets * c.ways).toNat, by omega, by omega⟩
open Mes in
def ArrNew (c : Cfg) (v : Value) (r : Frag) : Prop := (c.ok = true ∧ ∃ p b, p ≠ b ∧ v = .tuple #[.pointer (some ⟨p, 0, none⟩), i 0] ∧ r = ArrF p b c (List.replicate (c.sets * c.ways).toNat Mes.Way.none)) ∨ (c.ok = false ∧ v = .tuple #[.pointer none, i 1] ∧ r = nof)

open Mes in
theorem w_ArrNew (c : Cfg) (hc : CfgR c) : FnN Tryz.prog 47 [.agg (encC c)] (ArrNew c) := by
  refine Fn.body Tryz.func47 rfl rfl rfl (Nat.le_of_ble_eq_true rfl) fun F => ?_
  refine TC.seq ?_
  refine TC.region ?_
  refine TL.nb (NB.boxA rfl) (Wants.un rfl) rfl (fun b1 => ?_)
  refine .q (LD.assign rfl) rfl rfl ?_
  refine .q (LD.assign rfl) rfl rfl ?_
  refine TL.nilS ?_
  refine TC.seq ?_
  refine TC.seq ?_
  refine TC.region ?_
  refine .q (LD.ldA rfl m0 (by repeat constructor) rfl) rfl rfl ?_
  refine TL.cp (CL.func rfl) (w_Check c hc) (Wants.un rfl) rfl ?_
  rintro _ rfl
  refine .q (LD.assign rfl) rfl rfl ?_
  refine TL.nilS ?_
  refine TC.seq ?_
  refine TC.region ?_
  refine .q (LD.move rfl) rfl rfl ?_
  refine .q (LD.neq rfl rfl) rfl rfl ?_
  refine TL.nilS ?_
  refine TC.cond rfl (fun g1 => ?_) (fun g1 => ?_)
  · have h1 := g1
    try simp at h1
    refine TC.seq ?_
    refine TC.region ?_
    refine .q (LD.move rfl) rfl rfl ?_
    refine .q (LD.assign rfl) rfl rfl ?_
    refine .q (LD.assign rfl) rfl rfl ?_
    refine TL.nilS ?_
    refine TC.ret ?_
    repeat first | refine Post.sr ?_ | refine Post.br ?_
    exact Out.introE (X := [_]) (L0 := []) (L' := [_]) (Res.t rfl (Res.t rfl Res.z)) ⟨nof, .inr ⟨by simpa using h1, by rw [show c.ok = false from by simpa using h1]; rfl, rfl⟩, rfl⟩ (.refl _) Ent.nof
  · have h1 := g1
    try simp at h1
    refine TC.skipS ?_
    refine TC.seq ?_
    refine TC.draw0 [0, 0, 0, 0, 0, 0, 3, 0, 3, 0, 0] [0, 1, 2, 3, 4, 5, 6, 7, 8, 9, 10] TryzI.mixed (by decide +kernel) (by decide) ?_
    have hok : c.ok = true := by simpa using h1
    obtain ⟨m, hsz, hm⟩ := sw_nat hok
    have hrg : -9223372036854775808 ≤ c.sets * c.ways ∧ c.sets * c.ways ≤ 9223372036854775807 := by omega
    refine .q rfl rfl (LD.ldA rfl m0 (by repeat constructor) rfl) rfl rfl ?_
    refine .q rfl rfl (LD.fieldAddr rfl) rfl rfl ?_
    refine .q rfl rfl (LD.ld1 rfl m0 rfl) rfl rfl ?_
    refine .q rfl rfl (LD.fieldAddr rfl) rfl rfl ?_
    refine .q rfl rfl (LD.ld1 rfl m0 rfl) rfl rfl ?_
    refine .q rfl rfl (LD.mul rfl rfl hrg) rfl rfl ?_
    rw [hsz]
    refine TD.nb rfl rfl (NB.mkSk (m := m) rfl rfl ⟨by omega, by omega, by omega⟩) (Wants.un rfl) rfl (fun b16 => ?_)
    refine .q rfl rfl (LD.bS rfl rfl (by repeat constructor)) rfl rfl ?_
    refine TD.nb rfl rfl (NB.boxA rfl) (Wants.un rfl) rfl (fun b18 => ?_)
    refine .q rfl rfl (LD.assign rfl) rfl rfl ?_
    refine .q rfl rfl (LD.assign rfl) rfl rfl ?_
    refine TD.nilT ?_
    refine TC.dis fun hd => ?_
    refine TC.ret ?_
    repeat first | refine Post.sr ?_ | refine Post.br ?_
    refine Out.introE (X := []) (L0 := [_, _, _]) (L' := [_]) (Res.t rfl (Res.t rfl Res.z)) ⟨_, .inl ⟨hok, _, _, neq_dis hd, rfl, ?_⟩, rfl⟩ (.refl _) (Ent.foldT [_, _] [_])
    rw [ArrF, hsz, Int.toNat_natCast, List.length_replicate, List.map_replicate]
    rfl

open Mes in
theorem words_list (w : Words) : w.l = [w.get 0, w.get 1, w.get 2, w.get 3, w.get 4, w.get 5, w.get 6, w.get 7] := by
  obtain ⟨l, hl⟩ := w
  rcases l with _ | ⟨a, _ | ⟨b, _ | ⟨c, _ | ⟨d, _ | ⟨e, _ | ⟨f, _ | ⟨g, _ | ⟨h, _ | ⟨k, l⟩⟩⟩⟩⟩⟩⟩⟩⟩ <;> first | rfl | (simp at hl)
open Mes in
theorem words_rd (w : Words) (b n : Nat) (hn : n ≤ 8) : Rd (blk b 36 (encW w).toArray) (some ⟨b, if (8 : Int) = (n : Int) then 0 else 0 + n * 1, none⟩) 1 ((w.l.drop n).map (fun x => [i x])) := by
  refine ⟨fun e he => by obtain ⟨x, _, rfl⟩ := List.mem_map.1 he; rfl, fun e he v hv => by obtain ⟨x, _, rfl⟩ := List.mem_map.1 he; rw [List.mem_singleton] at hv; subst hv; rfl, ?_⟩
  rcases Nat.lt_or_ge n 8 with h | h
  · right
    refine ⟨b, n, _, 36, _, by rw [if_neg (by omega)]; simp, blk_same .., fun j v hj => ?_⟩
    have e : ((w.l.drop n).map (fun x => [i x])).flatten = (w.l.map i).drop n := by
      rw [← List.map_drop]
      induction (w.l.drop n) with
      | nil => rfl
      | cons x l ih => simp [ih]
    rw [e, List.getElem?_drop] at hj
    have : encW w = w.l.map i := by rw [words_list w]; rfl
    rw [this]; simpa using hj
  · left
    rw [List.drop_of_length_le (by rw [w.len]; omega)]; rfl

open Mes in
theorem w_odd1 (x : Int) : FnP Tryz.prog 199 [i x] (fun v => v = .bool (x != 0)) := by
  refine Fn.body Tryz.func199 rfl rfl rfl (Nat.le_of_ble_eq_true rfl) fun F => ?_
  refine TC.seq ?_
  refine TC.region ?_
  refine .q (LD.assign rfl) rfl rfl ?_
  refine TL.nilS ?_
  refine TC.seq ?_
  refine TC.region ?_
  refine .q (LD.move rfl) rfl rfl ?_
  refine .q (LD.neq rfl rfl) rfl rfl ?_
  refine .q (LD.assign rfl) rfl rfl ?_
  refine TL.nilS ?_
  refine TC.ret ?_
  repeat first | refine Post.sr ?_ | refine Post.br ?_
  exact Out.intro (X := []) (L' := []) (Res.t rfl Res.z) ⟨rfl, rfl⟩ (.refl _)
open Mes in
theorem w_odd (c : Cfg) (hok : c.ok = true) (a : List Mes.Way) (p b : Nat) (w : Mes.Words) : FnR Tryz.prog 147 [.pointer (some ⟨p, 0, none⟩), .agg (encW w).toArray] (ArrF p b c a) (fun v => v = .bool (oddWords c w)) := by
  refine Fn.body Tryz.func147 rfl rfl rfl (Nat.le_of_ble_eq_true rfl) fun F => ?_
  refine TC.seq ?_
  refine TC.region ?_
  refine TL.nb (NB.boxA rfl) (Wants.un rfl) rfl (fun b3 => ?_)
  refine .q (LD.assign rfl) rfl rfl ?_
  refine TL.nilS ?_
  refine TC.seq ?_
  refine TC.region ?_
  refine .q (LD.move rfl) rfl rfl ?_
  refine .q (LD.nilCheck rfl) rfl rfl ?_
  refine .q (LD.fieldAddr rfl) rfl rfl ?_
  refine .q (LD.fieldAddr rfl) rfl rfl ?_
  refine .q (LD.ld1f rfl m1 arr_p rfl) rfl rfl ?_
  obtain ⟨n, hn, hn8⟩ : ∃ n : Nat, c.words = n ∧ n ≤ 8 := by
    obtain ⟨j, _, e, e'⟩ := (okS hok).words
    have := pow_pos j
    exact ⟨c.words.toNat, by omega, by omega⟩
  rw [hn]
  refine .q (LD.sliceArr rfl rfl rfl (by omega)) rfl rfl ?_
  have hlen : (w.l.drop n).length = 8 - n := by rw [List.length_drop, w.len]
  have e : ((8 : Nat) : Int).toNat - ((n : Nat) : Int).toNat = (w.l.drop n).length := by rw [hlen]; simp
  rw [e]
  refine TL.cl (CL.func rfl) (w_ContInt (w.l.drop n) (fun x => [i x]) _ _ (blk b3 36 (encW w).toArray) (words_rd w b3 n hn8) 199 [] [] [] (fun x => x != 0) (by omega) (fun x _ => w_odd1 x)) (.refl _) (Wants.un rfl) rfl ?_
  rintro _ _ ⟨rfl, rfl⟩
  refine .q (LD.assign rfl) rfl rfl ?_
  refine TL.nilS ?_
  refine TC.ret ?_
  repeat first | refine Post.sr ?_ | refine Post.br ?_
  exact Out.intro (X := [_]) (L' := [_]) (Res.t rfl Res.z) ⟨by rw [oddWords, hn]; rfl, rfl⟩ (.refl _)

open Mes in
def setE (c : Cfg) (a : List Mes.Way) (line state : Int) (w : Words) : Int := if (placeOf c a line).isNone then 5 else if state < 0 ∨ 4 < state ∨ oddWords c w then 1 else 0

open Mes in
theorem w_Set (c : Cfg) (hc : CfgR c) (hok : c.ok = true) (a : List Mes.Way) (ha : (a.length : Int) = c.sets * c.ways) (p b : Nat) (hpb : p ≠ b) (line : Int) (hline : R64 line) (state : Int) (w : Mes.Words) : FnW Tryz.prog 68 [.pointer (some ⟨p, 0, none⟩), i line, i state, .agg (encW w).toArray] (ArrF p b c a) (fun v r => v = i (setE c a line state w) ∧ r = ArrF p b c (setWay c a line state w)) := by
  refine Fn.body Tryz.func68 rfl rfl rfl (Nat.le_of_ble_eq_true rfl) fun F => ?_
  refine TC.seq ?_
  refine TC.region ?_
  refine TL.nb (NB.boxA rfl) (Wants.un rfl) rfl (fun b7 => ?_)
  refine .q (LD.assign rfl) rfl rfl ?_
  refine TL.nilS ?_
  refine TC.seq ?_
  refine TC.region ?_
  refine .q (LD.move rfl) rfl rfl ?_
  refine .q (LD.move rfl) rfl rfl ?_
  refine TL.cr (CL.func rfl) (w_place c hc hok a ha p b hpb line hline) (by first | exact .head _ | exact .tail _ (.head _) | exact .tail _ (.tail _ (.head _)) | exact .tail _ (.tail _ (.tail _ (.head _))) | exact .tail _ (.tail _ (.tail _ (.tail _ (.head _)))) | exact .tail _ (.tail _ (.tail _ (.tail _ (.tail _ (.head _))))) | exact .tail _ (.tail _ (.tail _ (.tail _ (.tail _ (.tail _ (.head _)))))) | exact .tail _ (.tail _ (.tail _ (.tail _ (.tail _ (.tail _ (.tail _ (.head _))))))) | exact .tail _ (.tail _ (.tail _ (.tail _ (.tail _ (.tail _ (.tail _ (.tail _ (.head _)))))))) | exact .tail _ (.tail _ (.tail _ (.tail _ (.tail _ (.tail _ (.tail _ (.tail _ (.tail _ (.head _))))))))) | exact .tail _ (.tail _ (.tail _ (.tail _ (.tail _ (.tail _ (.tail _ (.tail _ (.tail _ (.tail _ (.head _)))))))))) | exact .tail _ (.tail _ (.tail _ (.tail _ (.tail _ (.tail _ (.tail _ (.tail _ (.tail _ (.tail _ (.tail _ (.head _)))))))))))) (Wants.un rfl) rfl ?_
  rintro _ rfl
  refine .q (LD.assign rfl) rfl rfl ?_
  refine TL.nilS ?_
  refine TC.seq ?_
  refine TC.block ?_
  refine TC.seq ?_
  refine TC.region ?_
  refine .q (LD.move rfl) rfl rfl ?_
  refine .q (LD.eql rfl rfl) rfl rfl ?_
  refine .q (LD.assign rfl) rfl rfl ?_
  refine TL.nilS ?_
  refine TC.cond rfl (fun g1 => ?_) (fun g1 => ?_)
  · have h1 := g1
    try simp at h1
    refine TC.seq ?_
    refine TC.region ?_
    refine .q (LD.assign rfl) rfl rfl ?_
    refine TL.nilS ?_
    refine TC.ret ?_
    repeat first | refine Post.sr ?_ | refine Post.br ?_
    have hpn : placeOf c a line = none := by cases h0 : placeOf c a line with | none => rfl | some j => (rw [h0] at h1; simp only [idxOf] at h1; omega)
    exact Out.intro (X := [_]) (L' := [_]) (Res.t rfl Res.z) ⟨_, ⟨by unfold setE; rw [hpn]; rfl, by unfold setWay updWay; rw [hpn]; simp⟩, rfl⟩ (.refl _)
  · have h1 := g1
    try simp at h1
    refine TC.seq ?_
    have hnn : placeOf c a line ≠ none := fun h0 => by simp_all [idxOf]
    obtain ⟨j, hj⟩ : ∃ j, placeOf c a line = some j := by cases h0 : placeOf c a line with | none => exact absurd h0 hnn | some j => exact ⟨j, rfl⟩
    obtain ⟨hin, x, hw, hw2, hjl⟩ := place_in hj
    have he : (a.map encWay)[baseOf c line + j]? = some (encWay x) := by rw [List.getElem?_map, hw]; rfl
    rw [hj]
    refine TC.region ?_
    refine .q (LD.move rfl) rfl rfl ?_
    refine .q (LD.lss rfl rfl) rfl rfl ?_
    refine .q (LD.move rfl) rfl rfl ?_
    refine TL.split rfl rfl rfl rfl (fun g2 => ?_) (fun g2 => ?_)
    · have h2 := g2
      try simp at h2
      refine .y (LD.move rfl) g2 rfl rfl rfl rfl ?_
      refine .y (LD.gtr rfl rfl) g2 rfl rfl rfl rfl ?_
      refine .q (LD.pickF rfl g2 rfl) rfl rfl ?_
      refine .q (LD.move rfl) rfl rfl ?_
      refine TL.split rfl rfl rfl rfl (fun g3 => ?_) (fun g3 => ?_)
      · have h3 := g3
        try simp at h3
        refine .y (LD.move rfl) g3 rfl rfl rfl rfl ?_
        refine .y (LD.ldA rfl m0 (by repeat constructor) rfl) g3 rfl rfl rfl rfl ?_
        refine TL.cr (CL.func rfl) (w_odd c hok a p b w) (by first | exact .head _ | exact .tail _ (.head _) | exact .tail _ (.tail _ (.head _)) | exact .tail _ (.tail _ (.tail _ (.head _))) | exact .tail _ (.tail _ (.tail _ (.tail _ (.head _)))) | exact .tail _ (.tail _ (.tail _ (.tail _ (.tail _ (.head _))))) | exact .tail _ (.tail _ (.tail _ (.tail _ (.tail _ (.tail _ (.head _)))))) | exact .tail _ (.tail _ (.tail _ (.tail _ (.tail _ (.tail _ (.tail _ (.head _))))))) | exact .tail _ (.tail _ (.tail _ (.tail _ (.tail _ (.tail _ (.tail _ (.tail _ (.head _)))))))) | exact .tail _ (.tail _ (.tail _ (.tail _ (.tail _ (.tail _ (.tail _ (.tail _ (.tail _ (.head _))))))))) | exact .tail _ (.tail _ (.tail _ (.tail _ (.tail _ (.tail _ (.tail _ (.tail _ (.tail _ (.tail _ (.head _)))))))))) | exact .tail _ (.tail _ (.tail _ (.tail _ (.tail _ (.tail _ (.tail _ (.tail _ (.tail _ (.tail _ (.tail _ (.head _)))))))))))) (Wants.yes rfl rfl rfl g3) rfl ?_
        rintro _ rfl
        refine .q (LD.pickF rfl g3 rfl) rfl rfl ?_
        refine .q (LD.assign rfl) rfl rfl ?_
        refine TL.nilS ?_
        refine TC.cond rfl (fun g4 => ?_) (fun g4 => ?_)
        · have h4 := g4
          try simp at h4
          refine TC.seq ?_
          refine TC.region ?_
          refine .q (LD.assign rfl) rfl rfl ?_
          refine TL.nilS ?_
          refine TC.ret ?_
          repeat first | refine Post.sr ?_ | refine Post.br ?_
          have he1 : setE c a line state w = 1 := by unfold setE; rw [hj, if_neg (by simp), if_pos (by simp_all; try omega)]
          have hst : setWay c a line state w = a := by unfold setWay; rw [if_pos (by simp_all; try omega)]
          exact Out.intro (X := [_]) (L' := [_]) (Res.t rfl Res.z) ⟨_, ⟨by rw [he1]; rfl, by rw [hst]⟩, rfl⟩ (.refl _)
        · have h4 := g4
          try simp at h4
          refine TC.seq ?_
          refine TC.region ?_
          refine .q (LD.move rfl) rfl rfl ?_
          refine .q (LD.eql rfl rfl) rfl rfl ?_
          refine .q (LD.assign rfl) rfl rfl ?_
          refine TL.nilS ?_
          refine TC.cond rfl (fun g5 => ?_) (fun g5 => ?_)
          · have h5 := g5
            try simp at h5
            refine TC.region ?_
            refine .q (LD.bA rfl rfl (by repeat constructor)) rfl rfl ?_
            refine .e (EF.stA (i := 0) rfl rfl rfl rfl rfl rfl (by repeat constructor)) rfl rfl ?_
            refine TL.nil ?_
            refine TC.seq ?_
            refine TC.region ?_
            refine .q (LD.move rfl) rfl rfl ?_
            refine .q (LD.move rfl) rfl rfl ?_
            refine TL.cr (CL.func rfl) (w_arrOf c hc hok a ha p b hpb line hline) (by first | exact .head _ | exact .tail _ (.head _) | exact .tail _ (.tail _ (.head _)) | exact .tail _ (.tail _ (.tail _ (.head _))) | exact .tail _ (.tail _ (.tail _ (.tail _ (.head _)))) | exact .tail _ (.tail _ (.tail _ (.tail _ (.tail _ (.head _))))) | exact .tail _ (.tail _ (.tail _ (.tail _ (.tail _ (.tail _ (.head _)))))) | exact .tail _ (.tail _ (.tail _ (.tail _ (.tail _ (.tail _ (.tail _ (.head _))))))) | exact .tail _ (.tail _ (.tail _ (.tail _ (.tail _ (.tail _ (.tail _ (.tail _ (.head _)))))))) | exact .tail _ (.tail _ (.tail _ (.tail _ (.tail _ (.tail _ (.tail _ (.tail _ (.tail _ (.head _))))))))) | exact .tail _ (.tail _ (.tail _ (.tail _ (.tail _ (.tail _ (.tail _ (.tail _ (.tail _ (.tail _ (.head _)))))))))) | exact .tail _ (.tail _ (.tail _ (.tail _ (.tail _ (.tail _ (.tail _ (.tail _ (.tail _ (.tail _ (.tail _ (.head _)))))))))))) (Wants.un rfl) rfl ?_
            rintro _ rfl
            rw [ofV, hin]
            refine .q (LD.move rfl) rfl rfl ?_
            refine .q (LD.indexAddr rfl rfl rfl (by simp only [idxOf]; omega)) rfl rfl ?_
            refine .q (LD.assign rfl) rfl rfl ?_
            refine TL.nilS ?_
            refine TC.seq ?_
            have hJ : baseOf c line + j < (a.map encWay).length := (List.getElem?_eq_some_iff.1 he).1
            have hl := encWay_len a
            refine TC.unfoldX (X := [_]) (m := [_, _]) rfl (pair_disj (blk_disj hpb)) ?_
            rw [foc_of0 he]
            simp only [idxOf]
            refine TC.drawX (R := [_]) [0, 0, 0, 0, 0, 0, 2, 0, 0, 2] [0, 1, 2, 3, 4, 5, 6, 7, 8, 9] TryzI.mixed (by decide +kernel) (no4 (by decide)) rfl ?_
            refine .q rfl rfl (LD.move rfl) rfl rfl ?_
            refine .q rfl rfl (LD.move rfl) rfl rfl ?_
            refine .q rfl rfl (LD.move rfl) rfl rfl ?_
            refine .q rfl rfl (LD.ldA rfl m0 (by repeat constructor) rfl) rfl rfl ?_
            refine .q rfl rfl (LD.nilCheck rfl) rfl rfl ?_
            refine .q rfl rfl (LD.fieldAddr rfl) rfl rfl ?_
            refine TD.efF (j := 1) rfl rfl (EF.f1 (J := (baseOf c line + j)) (f := 0) (i := 0) rfl rfl rfl (by omega) hJ hl rfl rfl (by repeat constructor) rfl) rfl (Wants.un rfl) rfl ?_
            refine .q rfl rfl (LD.nilCheck rfl) rfl rfl ?_
            refine .q rfl rfl (LD.fieldAddr rfl) rfl rfl ?_
            refine TD.efT (j := 1) rfl rfl (EF.fA (J := (baseOf c line + j)) (f := 2) (i := 0) rfl rfl rfl rfl (by omega) hJ hl rfl rfl (by repeat constructor) rfl) rfl (Wants.un rfl) rfl ?_
            refine TD.nilX ?_
            refine TC.seq ?_
            refine TC.region ?_
            refine .q (LD.assign rfl) rfl rfl ?_
            refine TL.nilS ?_
            refine TC.ret ?_
            repeat first | refine Post.sr ?_ | refine Post.br ?_
            have hst : setWay c a line state w = updWay c a line fun x => { x with state := state, words := if state = 0 then Words.zero else w } := by unfold setWay; rw [if_neg (by simp_all; try omega)]
            refine Out.introE (X := [_]) (L0 := [_, _]) (L' := [_]) (Res.t rfl Res.z) ⟨_, ⟨by unfold setE; rw [hj, if_neg (by simp), if_neg (by simp_all; try omega)]; rfl, ?_⟩, rfl⟩ (.refl _) (Ent.fold _)
            rw [hst, upd_set hj hw, if_pos (by omega), ArrF, List.length_set, List.map_set, ← List.append_nil (((a.map encWay).set _ _).flatten)]; rfl
          · have h5 := g5
            try simp at h5
            refine TC.skip ?_
            refine TC.seq ?_
            refine TC.region ?_
            refine .q (LD.move rfl) rfl rfl ?_
            refine .q (LD.move rfl) rfl rfl ?_
            refine TL.cr (CL.func rfl) (w_arrOf c hc hok a ha p b hpb line hline) (by first | exact .head _ | exact .tail _ (.head _) | exact .tail _ (.tail _ (.head _)) | exact .tail _ (.tail _ (.tail _ (.head _))) | exact .tail _ (.tail _ (.tail _ (.tail _ (.head _)))) | exact .tail _ (.tail _ (.tail _ (.tail _ (.tail _ (.head _))))) | exact .tail _ (.tail _ (.tail _ (.tail _ (.tail _ (.tail _ (.head _)))))) | exact .tail _ (.tail _ (.tail _ (.tail _ (.tail _ (.tail _ (.tail _ (.head _))))))) | exact .tail _ (.tail _ (.tail _ (.tail _ (.tail _ (.tail _ (.tail _ (.tail _ (.head _)))))))) | exact .tail _ (.tail _ (.tail _ (.tail _ (.tail _ (.tail _ (.tail _ (.tail _ (.tail _ (.head _))))))))) | exact .tail _ (.tail _ (.tail _ (.tail _ (.tail _ (.tail _ (.tail _ (.tail _ (.tail _ (.tail _ (.head _)))))))))) | exact .tail _ (.tail _ (.tail _ (.tail _ (.tail _ (.tail _ (.tail _ (.tail _ (.tail _ (.tail _ (.tail _ (.head _)))))))))))) (Wants.un rfl) rfl ?_
            rintro _ rfl
            rw [ofV, hin]
            refine .q (LD.move rfl) rfl rfl ?_
            refine .q (LD.indexAddr rfl rfl rfl (by simp only [idxOf]; omega)) rfl rfl ?_
            refine .q (LD.assign rfl) rfl rfl ?_
            refine TL.nilS ?_
            refine TC.seq ?_
            have hJ : baseOf c line + j < (a.map encWay).length := (List.getElem?_eq_some_iff.1 he).1
            have hl := encWay_len a
            refine TC.unfoldX (X := [_]) (m := [_, _]) rfl (pair_disj (blk_disj hpb)) ?_
            rw [foc_of0 he]
            simp only [idxOf]
            refine TC.drawX (R := [_]) [0, 0, 0, 0, 0, 0, 2, 0, 0, 2] [0, 1, 2, 3, 4, 5, 6, 7, 8, 9] TryzI.mixed (by decide +kernel) (no4 (by decide)) rfl ?_
            refine .q rfl rfl (LD.move rfl) rfl rfl ?_
            refine .q rfl rfl (LD.move rfl) rfl rfl ?_
            refine .q rfl rfl (LD.move rfl) rfl rfl ?_
            refine .q rfl rfl (LD.ldA rfl m0 (by repeat constructor) rfl) rfl rfl ?_
            refine .q rfl rfl (LD.nilCheck rfl) rfl rfl ?_
            refine .q rfl rfl (LD.fieldAddr rfl) rfl rfl ?_
            refine TD.efF (j := 1) rfl rfl (EF.f1 (J := (baseOf c line + j)) (f := 0) (i := 0) rfl rfl rfl (by omega) hJ hl rfl rfl (by repeat constructor) rfl) rfl (Wants.un rfl) rfl ?_
            refine .q rfl rfl (LD.nilCheck rfl) rfl rfl ?_
            refine .q rfl rfl (LD.fieldAddr rfl) rfl rfl ?_
            refine TD.efT (j := 1) rfl rfl (EF.fA (J := (baseOf c line + j)) (f := 2) (i := 0) rfl rfl rfl rfl (by omega) hJ hl rfl rfl (by repeat constructor) rfl) rfl (Wants.un rfl) rfl ?_
            refine TD.nilX ?_
            refine TC.seq ?_
            refine TC.region ?_
            refine .q (LD.assign rfl) rfl rfl ?_
            refine TL.nilS ?_
            refine TC.ret ?_
            repeat first | refine Post.sr ?_ | refine Post.br ?_
            have hst : setWay c a line state w = updWay c a line fun x => { x with state := state, words := if state = 0 then Words.zero else w } := by unfold setWay; rw [if_neg (by simp_all; try omega)]
            refine Out.introE (X := [_]) (L0 := [_, _]) (L' := [_]) (Res.t rfl Res.z) ⟨_, ⟨by unfold setE; rw [hj, if_neg (by simp), if_neg (by simp_all; try omega)]; rfl, ?_⟩, rfl⟩ (.refl _) (Ent.fold _)
            rw [hst, upd_set hj hw, if_neg (by omega), ArrF, List.length_set, List.map_set, ← List.append_nil (((a.map encWay).set _ _).flatten)]; rfl
      · have h3 := g3
        try simp at h3
        refine .s g3 rfl rfl rfl rfl ?_
        refine .s g3 rfl rfl rfl rfl ?_
        refine .q (LD.pickT rfl g3 rfl) rfl rfl ?_
        refine .q (LD.assign rfl) rfl rfl ?_
        refine TL.nilS ?_
        refine TC.condT rfl rfl ?_
        refine TC.seq ?_
        refine TC.region ?_
        refine .q (LD.assign rfl) rfl rfl ?_
        refine TL.nilS ?_
        refine TC.ret ?_
        repeat first | refine Post.sr ?_ | refine Post.br ?_
        have he1 : setE c a line state w = 1 := by unfold setE; rw [hj, if_neg (by simp), if_pos (by simp_all; try omega)]
        have hst : setWay c a line state w = a := by unfold setWay; rw [if_pos (by simp_all; try omega)]
        exact Out.intro (X := [_]) (L' := [_]) (Res.t rfl Res.z) ⟨_, ⟨by rw [he1]; rfl, by rw [hst]⟩, rfl⟩ (.refl _)
    · have h2 := g2
      try simp at h2
      refine .s g2 rfl rfl rfl rfl ?_
      refine .q (LD.pickT rfl g2 rfl) rfl rfl ?_
      refine .q (LD.move rfl) rfl rfl ?_
      refine .s rfl rfl rfl rfl rfl ?_
      refine .s rfl rfl rfl rfl rfl ?_
      refine .s rfl rfl rfl rfl rfl ?_
      refine .q (LD.pickT rfl rfl rfl) rfl rfl ?_
      refine .q (LD.assign rfl) rfl rfl ?_
      refine TL.nilS ?_
      refine TC.condT rfl rfl ?_
      refine TC.seq ?_
      refine TC.region ?_
      refine .q (LD.assign rfl) rfl rfl ?_
      refine TL.nilS ?_
      refine TC.ret ?_
      repeat first | refine Post.sr ?_ | refine Post.br ?_
      have he1 : setE c a line state w = 1 := by unfold setE; rw [hj, if_neg (by simp), if_pos (by simp_all; try omega)]
      have hst : setWay c a line state w = a := by unfold setWay; rw [if_pos (by simp_all; try omega)]
      exact Out.intro (X := [_]) (L' := [_]) (Res.t rfl Res.z) ⟨_, ⟨by rw [he1]; rfl, by rw [hst]⟩, rfl⟩ (.refl _)
end Go.SL.TryzI
