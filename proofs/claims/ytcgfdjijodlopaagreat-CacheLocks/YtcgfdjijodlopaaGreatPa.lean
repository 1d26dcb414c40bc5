/- A part of proofs about the given program. No condition. -/
set_option linter.all false
section
/- The program's data and functions, as plain Lean functions on data: no Go and no memory in it. -/
namespace Mes

/-- Eight words of a line. -/
structure Words where
  l : List Int
  len : l.length = 8
  deriving DecidableEq

namespace Words
def zero : Words := ⟨List.replicate 8 0, by simp⟩
def get (w : Words) (i : Nat) : Int := w.l.getD i 0
def set (w : Words) (i : Nat) (v : Int) : Words := ⟨w.l.set i v, by simp [w.len]⟩
instance : Inhabited Words := ⟨zero⟩
end Words

structure Cfg where
  cores : Int
  homes : Int
  sets : Int
  ways : Int
  words : Int
  lines : Int
  pointers : Int
  mshrs : Int
  buffer : Int
  writebacks : Int
  r0 : Int
  r1 : Int
  r2 : Int
  deriving DecidableEq, Inhabited

/-- Powers of two up to some number. -/
def pows : List Int := [1, 2, 4, 8, 16, 32, 64, 128, 256, 512, 1024]
def isPow (n most : Int) : Bool := pows.contains n && decide (n ≤ most)
def inR (n many : Int) : Bool := decide (0 ≤ n) && decide (n < many)
def inC (n lo hi : Int) : Bool := decide (lo ≤ n) && decide (n ≤ hi)

def Cfg.ok (c : Cfg) : Bool :=
  inC c.cores 1 64 && isPow c.homes 16 && isPow c.sets 64 && isPow c.words 8 && isPow c.lines 1024 &&
  inC c.ways 1 8 && inC c.pointers 0 8 && inC c.mshrs 1 8 && inC c.buffer 1 16 && inC c.writebacks 1 8 &&
  inC c.r0 1 64 && inC c.r1 1 64 && inC c.r2 1 64

def Cfg.room (c : Cfg) (n : Nat) : Int := match n with | 0 => c.r0 | 1 => c.r1 | _ => c.r2
def Cfg.size (c : Cfg) : Int := if c.ok then c.words * c.lines else 0

structure Op where
  kind : Int
  addr : Int
  value : Int
  deriving DecidableEq, Inhabited

def Op.none : Op := ⟨0, 0, 0⟩

def Op.may (x : Op) : Bool :=
  if x.kind = 4 then x.addr == 0 && x.value == 0
  else if x.kind = 1 then inC x.addr 0 8191 && x.value == 0
  else if x.kind = 2 ∨ x.kind = 3 then inC x.addr 0 8191 && inC x.value (-2147483648) 2147483647
  else false

def fits (c : Cfg) (l : List Op) : Bool :=
  l.all (fun x => x.may && decide (x.addr < c.size)) && c.ok && decide (l.length ≤ 64)

structure Msg where
  kind : Int
  line : Int
  frm : Int
  to : Int
  who : Int
  acks : Int
  own : Int
  words : Words
  deriving DecidableEq

def Msg.none : Msg := ⟨0, 0, 0, 0, 0, 0, 0, Words.zero⟩
instance : Inhabited Msg := ⟨Msg.none⟩

/-- a kind's network -/
def netOf (kind : Int) : Int :=
  if 1 ≤ kind ∧ kind ≤ 3 then 0 else if 4 ≤ kind ∧ kind ≤ 6 then 1 else if 7 ≤ kind ∧ kind ≤ 11 then 2 else -1
def toHome (kind : Int) : Bool := netOf kind == 0 || kind == 11

def wordOk (c : Cfg) (i : Nat) (n : Int) : Bool := inC n (-2147483648) 2147483647 && (decide ((i : Int) < c.words) || n == 0)
def valuesOk (c : Cfg) (w : Words) : Bool := (List.range 8).all fun i => wordOk c i (w.get i)

/-- no Who, no Own, acks below a bound -/
def plainMsg (m : Msg) (most : Int) : Bool := m.who == 0 && m.own == 0 && inR m.acks most

def Msg.form (c : Cfg) (m : Msg) : Bool :=
  let home := m.line % c.homes
  if m.kind = 3 then inR m.frm c.cores && m.to == home && plainMsg m 1 && valuesOk c m.words
  else if m.kind = 1 ∨ m.kind = 2 ∨ m.kind = 11 then inR m.frm c.cores && m.to == home && plainMsg m 1 && m.words == Words.zero
  else if m.kind = 4 ∨ m.kind = 6 then inR m.who c.cores && m.who != m.to && (m.frm == home && inR m.to c.cores && m.own == 0 && inR m.acks 1) && m.words == Words.zero
  else if m.kind = 5 then inR m.who c.cores && m.who != m.to && (m.frm == home && inR m.to c.cores && m.own == 0 && inR m.acks c.cores) && m.words == Words.zero
  else if m.kind = 7 then (m.own == 1 || m.own == 2 || m.own == 4) && inR m.acks c.cores && inR m.to c.cores &&
    (if m.who = 0 then m.frm == home else m.who == 1 && inR m.frm c.cores && m.frm != m.to) && valuesOk c m.words
  else if m.kind = 8 then m.frm == home && inR m.to c.cores && plainMsg m c.cores && m.words == Words.zero
  else if m.kind = 10 then m.frm == home && inR m.to c.cores && plainMsg m 1 && m.words == Words.zero
  else inR m.frm c.cores && inR m.to c.cores && m.frm != m.to && plainMsg m 1 && m.words == Words.zero

def Msg.may (c : Cfg) (m : Msg) : Bool := c.ok && netOf m.kind != -1 && inR m.line c.lines && m.form c

/-! ### split -/
def Cfg.lineOf (c : Cfg) (addr : Int) : Int := addr / c.words
def Cfg.wordOf (c : Cfg) (addr : Int) : Nat := (addr % c.words).toNat
def Cfg.homeOf (c : Cfg) (line : Int) : Int := line % c.homes
def Cfg.setOf (c : Cfg) (line : Int) : Int := line % c.sets

/-! ### array -/
structure Way where
  state : Int
  line : Int
  words : Words
  locked : Bool
  deriving DecidableEq
def Way.none : Way := ⟨0, 0, Words.zero, false⟩
instance : Inhabited Way := ⟨Way.none⟩
def Way.there (w : Way) : Bool := w.state != 0 || w.locked

/-- where a line's set begins -/
def baseOf (c : Cfg) (line : Int) : Nat := (c.setOf line * c.ways).toNat
/-- a set's ways -/
def waysFrom (c : Cfg) (a : List Way) (base : Nat) : List Way := (a.drop base).take c.ways.toNat
def waysOf (c : Cfg) (a : List Way) (line : Int) : List Way := if inR line c.lines then waysFrom c a (baseOf c line) else []
def has (line : Int) (w : Way) : Bool := w.there && w.line == line
def placeOf (c : Cfg) (a : List Way) (line : Int) : Option Nat := (waysOf c a line).findIdx? (has line)
def freeOf (c : Cfg) (a : List Way) (line : Int) : Option Nat := (waysOf c a line).findIdx? (fun w => !w.there)
def findWay (c : Cfg) (a : List Way) (line : Int) : Option Way := (waysOf c a line).find? (has line)
def lookWay (c : Cfg) (a : List Way) (line : Int) : Way := (findWay c a line).getD Way.none
def layWay (c : Cfg) (a : List Way) (line : Int) (way : Nat) : List Way := a.set (baseOf c line + way) ⟨0, line, Words.zero, true⟩
def oddWords (c : Cfg) (w : Words) : Bool := (w.l.drop c.words.toNat).any (· != 0)
/-- a line's way is another one -/
def updWay (c : Cfg) (a : List Way) (line : Int) (f : Way → Way) : List Way :=
  match placeOf c a line with
  | Option.none => a
  | some at_ => a.modify (baseOf c line + at_) f
def setWay (c : Cfg) (a : List Way) (line state : Int) (words : Words) : List Way :=
  if state < 0 ∨ 4 < state ∨ oddWords c words then a
  else updWay c a line fun w => { w with state := state, words := if state = 0 then Words.zero else words }
def lockWay (c : Cfg) (a : List Way) (line : Int) (locked : Bool) : List Way := updWay c a line fun w => { w with locked := locked }
def wayAt (c : Cfg) (a : List Way) (set way : Int) : Option Way :=
  if inR set c.sets && inR way c.ways then a[(set * c.ways + way).toNat]? else Option.none

/-! ### mshr -/
structure Miss where
  line : Int
  kind : Int
  needs : Int
  got : Int
  own : Int
  words : Words
  granted : Bool
  owes : Bool
  deriving DecidableEq
def Miss.none : Miss := ⟨0, 0, 0, 0, 0, Words.zero, false, false⟩
instance : Inhabited Miss := ⟨Miss.none⟩
def Miss.new (line kind : Int) : Miss := ⟨line, kind, -1, 0, 0, Words.zero, false, false⟩
def missAt (f : List Miss) (line : Int) : Option Nat := f.findIdx? (fun m => m.line == line)
def missOf (f : List Miss) (line : Int) : Option Miss := f.find? (fun m => m.line == line)
def updMiss (f : List Miss) (line : Int) (g : Miss → Miss) : List Miss :=
  match missAt f line with
  | Option.none => f
  | some i => f.modify i g
def Miss.fits (m : Miss) (acks own : Int) : Bool :=
  if m.needs ≠ -1 ∨ acks < m.got then false
  else if m.kind = 2 then own == 4
  else acks == 0 && (own == 1 || own == 2)
def missData (f : List Miss) (line acks own : Int) (words : Words) : List Miss × Int :=
  match missOf f line with
  | Option.none => (f, 5)
  | some m => if m.fits acks own then (updMiss f line fun m => { m with needs := acks, own := own, words := words }, 0) else (f, 7)
def missGrant (f : List Miss) (line acks : Int) : List Miss × Int :=
  match missData f line acks 4 Words.zero with
  | (f', e) => if e = 0 then (updMiss f' line fun m => { m with granted := true }, 0) else (f', e)
def missAck (f : List Miss) (line : Int) : List Miss × Int :=
  match missOf f line with
  | Option.none => (f, 5)
  | some m => if m.kind = 1 ∨ m.needs = m.got then (f, 7) else (updMiss f line fun m => { m with got := m.got + 1 }, 0)
def missOwe (f : List Miss) (line : Int) : List Miss × Option Miss :=
  match missOf f line with
  | Option.none => (f, Option.none)
  | some m => if m.owes = true ∨ m.needs ≠ m.got then (f, Option.none) else (updMiss f line fun m => { m with owes := true }, some m)
def missOwing (f : List Miss) : Option Int := (f.find? (·.owes)).map (·.line)
def missClose (f : List Miss) (line : Int) : List Miss :=
  match missOf f line with
  | Option.none => f
  | some m => if m.owes then (match missAt f line with | some i => f.eraseIdx i | Option.none => f) else f

/-! ### writeback -/
structure WB where
  line : Int
  words : Words
  live : Bool
  deriving DecidableEq
instance : Inhabited WB := ⟨⟨0, Words.zero, false⟩⟩
def wbAt (b : List WB) (line : Int) : Option Nat := b.findIdx? (fun e => e.line == line)
def wbOf (b : List WB) (line : Int) : Option WB := b.find? (fun e => e.line == line)
def wbPut (c : Cfg) (b : List WB) (line : Int) (words : Words) : List WB × Int :=
  if (wbOf b line).isSome then (b, 6) else if (b.length : Int) = c.writebacks then (b, 4) else (b ++ [⟨line, words, true⟩], 0)
def wbShare (b : List WB) (line : Int) : Words × Int :=
  match wbOf b line with
  | Option.none => (Words.zero, 5)
  | some e => if e.live then (e.words, 0) else (Words.zero, 7)
def wbKill (b : List WB) (line : Int) : List WB :=
  match wbAt b line with
  | Option.none => b
  | some i => b.modify i fun e => { e with live := false }
def wbDrop (b : List WB) (line : Int) : List WB × Int :=
  match wbAt b line with
  | Option.none => (b, 5)
  | some i => (b.eraseIdx i, 0)

/-! ### memory -/
/-- what an operation makes of a word, and what it tells -/
def touch (was : Int) (x : Op) : Int × Int :=
  if x.kind = 2 then (x.value, 0) else if x.kind = 3 then (x.value, was) else (was, was)
def memDo (w : List Int) (x : Op) : List Int × Int × Int :=
  if !x.may || decide ((w.length : Int) ≤ x.addr) then (w, 0, 1)
  else if x.kind = 4 then (w, 0, 0)
  else (w.set x.addr.toNat (touch (w.getD x.addr.toNat 0) x).1, (touch (w.getD x.addr.toNat 0) x).2, 0)
def memLine (c : Cfg) (w : List Int) (line : Int) : Words :=
  ⟨(((w.drop (line * c.words).toNat).take c.words.toNat) ++ List.replicate 8 0).take 8, by simp⟩
def memWrite (c : Cfg) (w : List Int) (line : Int) (words : Words) : List Int :=
  if oddWords c words then w
  else w.take (line * c.words).toNat ++ words.l.take c.words.toNat ++ w.drop ((line * c.words).toNat + c.words.toNat)
def applyOp (c : Cfg) (words : Words) (x : Op) : Words × Int × Int :=
  if !c.ok || !inR x.addr c.size || !x.may || x.kind == 4 then (Words.zero, 0, 1)
  else (words.set (c.wordOf x.addr) (touch (words.get (c.wordOf x.addr)) x).1, (touch (words.get (c.wordOf x.addr)) x).2, 0)

/-! ### sharer, table -/
structure SSet where
  cores : Int
  most : Int
  pointers : List Int
  all : Bool
  deriving DecidableEq, Inhabited
def rising (cores : Int) : Int → List Int → Bool
  | _, [] => true
  | last, p :: l => decide (last < p) && decide (p < cores) && rising cores p l
def SSet.may (s : SSet) : Bool :=
  inC s.cores 1 64 && inC s.most 0 8 && decide ((s.pointers.length : Int) ≤ s.most) && !(s.all && !s.pointers.isEmpty) && rising s.cores (-1) s.pointers
def SSet.new (cores most : Int) : SSet := ⟨cores, most, [], false⟩
def SSet.clear (s : SSet) : SSet := ⟨s.cores, s.most, [], false⟩
def SSet.has (s : SSet) (core : Int) : Bool := if s.all then inR core s.cores else s.pointers.contains core
def insertSorted (n : Int) : List Int → List Int
  | [] => [n]
  | p :: l => if n ≤ p then n :: p :: l else p :: insertSorted n l
def SSet.add (s : SSet) (core : Int) : SSet :=
  if s.has core then s
  else if (s.pointers.length : Int) = s.most then { s with pointers := [], all := true }
  else { s with pointers := insertSorted core s.pointers }
def coreList (n : Int) : List Int := (List.range n.toNat).map Int.ofNat
def SSet.targets (s : SSet) (but : List Int) : List Int := (coreList s.cores).filter fun k => s.has k && !but.contains k

structure Entry where
  owner : Int
  sharers : SSet
  deriving DecidableEq, Inhabited
def Entry.may (e : Entry) : Bool := e.sharers.may && decide (-1 ≤ e.owner) && decide (e.owner < e.sharers.cores)
def Entry.new (c : Cfg) : Entry := ⟨-1, SSet.new c.cores c.pointers⟩
structure Turn where
  entry : Entry
  sent : List Msg
  write : Bool
  deriving DecidableEq, Inhabited

/-- a message of a home, for a request -/
def reply (m : Msg) (kind to who acks own : Int) (words : Words) : Msg := ⟨kind, m.line, m.to, to, who, acks, own, words⟩

/-- table.Next -/
def next (e : Entry) (m : Msg) (words : Words) : Turn × Int :=
  let r := m.frm
  let clear := e.sharers.clear
  if !e.may || !inR r e.sharers.cores then (⟨⟨0, ⟨0, 0, [], false⟩⟩, [], false⟩, 1)
  else if m.kind = 1 then
    if e.owner = r then (⟨⟨0, ⟨0, 0, [], false⟩⟩, [], false⟩, 7)
    else if e.owner ≠ -1 then (⟨⟨e.owner, e.sharers.add r⟩, [reply m 4 e.owner r 0 0 Words.zero], false⟩, 0)
    else if e.sharers.targets [] = [] then (⟨⟨r, clear⟩, [reply m 7 r 0 0 2 words], false⟩, 0)
    else (⟨⟨-1, e.sharers.add r⟩, [reply m 7 r 0 0 1 words], false⟩, 0)
  else if m.kind = 2 then
    let others := e.sharers.targets [r, e.owner]
    let n : Int := others.length
    let first := if e.owner = -1 then reply m 7 r 0 n 4 words else if e.owner = r then reply m 8 r 0 n 0 Words.zero else reply m 5 e.owner r n 0 Words.zero
    (⟨⟨r, clear⟩, first :: others.map (fun k => reply m 6 k r 0 0 Words.zero), false⟩, 0)
  else if m.kind = 3 then
    if e.owner = r then (⟨⟨-1, e.sharers⟩, [reply m 10 r 0 0 0 Words.zero], true⟩, 0)
    else (⟨e, [reply m 10 r 0 0 0 Words.zero], false⟩, 0)
  else (⟨⟨0, ⟨0, 0, [], false⟩⟩, [], false⟩, 1)

/-! ### cache -/
structure Cache where
  c : Cfg
  core : Int
  a : List Way
  f : List Miss
  b : List WB
  deriving DecidableEq, Inhabited
def Cache.new (c : Cfg) (core : Int) : Cache := ⟨c, core, List.replicate (c.sets * c.ways).toNat Way.none, [], []⟩
def Cache.find (k : Cache) (line : Int) : Option Way := findWay k.c k.a line
def Cache.look (k : Cache) (line : Int) : Way := lookWay k.c k.a line
def Cache.home (k : Cache) (kind line : Int) : Msg := ⟨kind, line, k.core, k.c.homeOf line, 0, 0, 0, Words.zero⟩
def canDo (state kind : Int) : Bool := if kind = 1 then state != 0 else state == 2 || state == 4
def Cache.can (k : Cache) (line kind : Int) : Bool := canDo (k.look line).state kind

def Cache.ask (k : Cache) (line kind : Int) : Cache × Msg × Int :=
  if !inR line k.c.lines || (kind != 1 && kind != 2) then (k, Msg.none, 1)
  else if (missOf k.f line).isSome || (wbOf k.b line).isSome || k.can line kind then (k, Msg.none, 6)
  else if (k.f.length : Int) = k.c.mshrs then (k, Msg.none, 4)
  else if (k.find line).isSome then ({ k with a := lockWay k.c k.a line true, f := k.f ++ [Miss.new line kind] }, k.home kind line, 0)
  else match freeOf k.c k.a line with
    | Option.none => (k, Msg.none, 5)
    | some w => ({ k with a := layWay k.c k.a line w, f := k.f ++ [Miss.new line kind] }, k.home kind line, 0)

def Cache.evict (k : Cache) (set way : Int) : Cache × Msg × Bool × Int :=
  match wayAt k.c k.a set way with
  | Option.none => (k, Msg.none, false, 5)
  | some w =>
    if w.state = 0 then (k, Msg.none, false, 5)
    else if w.locked then (k, Msg.none, false, 6)
    else if 2 ≤ w.state then
      match wbPut k.c k.b w.line w.words with
      | (b, e) =>
        if e ≠ 0 then (k, Msg.none, false, 4)
        else ({ k with a := setWay k.c k.a w.line 0 Words.zero, b := b }, { k.home 3 w.line with words := w.words }, true, 0)
    else ({ k with a := setWay k.c k.a w.line 0 Words.zero }, Msg.none, false, 0)

/-- an answer to who asked -/
def Cache.answer (k : Cache) (m : Msg) (kind : Int) : Msg := ⟨kind, m.line, k.core, m.who, 0, 0, 0, Words.zero⟩

def Cache.tell (k : Cache) (m : Msg) (own state : Int) (give : Bool) : Cache × Msg × Bool × Int :=
  let w := k.look m.line
  let said (words : Words) : Msg := { k.answer m 7 with who := 1, own := own, acks := m.acks, words := words }
  if 2 ≤ w.state then ({ k with a := setWay k.c k.a m.line state w.words }, said w.words, true, 0)
  else match wbShare k.b m.line with
    | (words, e) =>
      if e ≠ 0 then (k, Msg.none, false, 7)
      else ({ k with b := if give then wbKill k.b m.line else k.b }, said words, true, 0)

def Cache.inv (k : Cache) (m : Msg) : Cache × Msg × Bool × Int :=
  let w := k.look m.line
  if 2 ≤ w.state then (k, Msg.none, false, 7)
  else ({ k with a := if w.state = 1 then setWay k.c k.a m.line 0 Words.zero else k.a }, k.answer m 9, true, 0)

def Cache.filled (k : Cache) (line e : Int) : Cache × Msg × Bool × Int :=
  if e ≠ 0 then (k, Msg.none, false, 7)
  else match missOwe k.f line with
    | (f, Option.none) => ({ k with f := f }, Msg.none, false, 0)
    | (f, some m) =>
      ({ k with f := f, a := setWay k.c k.a line m.own (if m.granted then (k.look line).words else m.words) }, Msg.none, false, 0)

def Cache.take (k : Cache) (m : Msg) : Cache × Msg × Bool × Int :=
  if !m.may k.c || toHome m.kind || m.to != k.core then (k, Msg.none, false, 1)
  else if m.kind = 4 then k.tell m 1 3 false
  else if m.kind = 5 then k.tell m 4 0 true
  else if m.kind = 6 then k.inv m
  else if m.kind = 7 then
    match missData k.f m.line m.acks m.own m.words with
    | (f, e) => ({ k with f := f }).filled m.line e
  else if m.kind = 8 then
    if (k.look m.line).state ≠ 3 then (k, Msg.none, false, 7)
    else match missGrant k.f m.line m.acks with
      | (f, e) => ({ k with f := f }).filled m.line e
  else if m.kind = 9 then
    match missAck k.f m.line with
    | (f, e) => ({ k with f := f }).filled m.line e
  else match wbDrop k.b m.line with
    | (b, e) => if e ≠ 0 then (k, Msg.none, false, 7) else ({ k with b := b }, Msg.none, false, 0)

def Cache.finish (k : Cache) : Cache × Option Msg :=
  match missOwing k.f with
  | Option.none => (k, Option.none)
  | some line => ({ k with f := missClose k.f line, a := lockWay k.c k.a line false }, some (k.home 11 line))

def opKind (x : Op) : Int := if x.kind = 1 then 1 else 2

def Cache.do (k : Cache) (x : Op) : Cache × Int × Int :=
  let line := if inR x.addr k.c.size then k.c.lineOf x.addr else 0
  let w := k.look line
  match applyOp k.c w.words x with
  | (words, n, e) =>
    if e ≠ 0 then (k, 0, e)
    else if !k.can line (opKind x) then (k, 0, 5)
    else if opKind x = 2 then ({ k with a := setWay k.c k.a line 4 words }, n, 0)
    else (k, n, 0)

/-! ### queue, home -/
structure QE where
  m : Msg
  started : Bool
  sends : List Msg
  deriving DecidableEq
instance : Inhabited QE := ⟨⟨Msg.none, false, []⟩⟩
structure Home where
  c : Cfg
  number : Int
  known : Int → Option Entry
  mem : List Int
  q : List QE
  odd : Int
instance : Inhabited Home := ⟨⟨default, 0, fun _ => Option.none, [], [], 0⟩⟩
def Home.mine (h : Home) (line : Int) : Bool := inR line h.c.lines && h.c.homeOf line == h.number
def Home.new (c : Cfg) (number : Int) : Home :=
  ⟨c, number, fun line => if inR line c.lines && c.homeOf line == number then some (Entry.new c) else Option.none, List.replicate (c.words * c.lines).toNat 0, [], 0⟩
def Home.accept (h : Home) (m : Msg) : Home × Int :=
  if !(m.may h.c && netOf m.kind == 0 && toHome m.kind && m.to == h.number) then (h, 1)
  else if (h.q.length : Int) = h.c.buffer then (h, 4)
  else ({ h with q := h.q ++ [⟨m, false, []⟩] }, 0)
def qReady (q : List QE) (at_ : Nat) : Bool :=
  match q[at_]? with
  | Option.none => false
  | some e => !e.started && !(q.take at_).any (fun x => x.m.line == e.m.line)
def qFinish (q : List QE) (line frm : Int) : List QE × Int :=
  match q.findIdx? (fun e => e.started && e.m.line == line && e.m.frm == frm && e.m.kind != 3 && e.sends.isEmpty) with
  | Option.none => (q, 7)
  | some i => (q.eraseIdx i, 0)
def qSent (q : List QE) (at_ : Nat) : List QE :=
  match q[at_]? with
  | Option.none => q
  | some e => if e.sends.length = 1 ∧ e.m.kind = 3 then q.eraseIdx at_ else q.set at_ { e with sends := e.sends.tail }
def Home.entry (h : Home) (line : Int) : Entry := (h.known line).getD ⟨0, ⟨0, 0, [], false⟩⟩
def Home.start (h : Home) (at_ : Nat) (m : Msg) : Home :=
  match next (h.entry m.line) m (memLine h.c h.mem m.line) with
  | (t, e) =>
    if e ≠ 0 then { h with odd := h.odd + 1, q := h.q.eraseIdx at_ }
    else { h with
      q := h.q.modify at_ fun x => { x with started := true, sends := t.sent }
      known := fun l => if l = m.line then some t.entry else h.known l
      mem := if t.write then memWrite h.c h.mem m.line m.words else h.mem }
/-- told: a message to be sent; was something done? -/
def Home.work (h : Home) (at_ : Int) (left : Nat → Int) : Home × Option Msg × Bool :=
  if at_ < 0 then (h, Option.none, false)
  else match h.q[at_.toNat]? with
  | Option.none => (h, Option.none, false)
  | some e =>
    if qReady h.q at_.toNat then (h.start at_.toNat e.m, Option.none, true)
    else match e.sends with
      | [] => (h, Option.none, false)
      | m :: _ => if left (netOf m.kind).toNat ≤ 0 then (h, Option.none, false) else ({ h with q := qSent h.q at_.toNat }, some m, true)
def Home.done (h : Home) (m : Msg) : Home × Int :=
  if !(m.may h.c && netOf m.kind == 2 && toHome m.kind && m.to == h.number) then (h, 1)
  else match qFinish h.q m.line m.frm with
    | (q, e) => ({ h with q := q }, e)

/-! ### core -/
structure Core where
  l : List Op
  told : List Int
  tried : Int → Bool
instance : Inhabited Core := ⟨⟨[], [], fun _ => false⟩⟩
def Core.new (l : List Op) : Core := ⟨l, [], fun _ => false⟩
def Core.left (k : Core) : Int := k.l.length - k.told.length
def Core.head (k : Core) : Option Op := k.l[k.told.length]?
def Core.commit (k : Core) (n : Int) : Core := { k with told := k.told ++ [n], tried := fun i => if i = k.told.length then false else k.tried i }
def Core.ahead (k : Core) (by_ : Int) : Option Op :=
  if by_ < 1 ∨ 4 < by_ then Option.none
  else match k.l[k.told.length + by_.toNat]? with
    | Option.none => Option.none
    | some x => if x.kind = 4 ∨ k.tried (k.told.length + by_) = true then Option.none else some x
def Core.try (k : Core) (by_ : Int) : Core := { k with tried := fun i => if i = k.told.length + by_ then true else k.tried i }

/-! ### machine -/
structure Commit where
  core : Int
  at_ : Int
  op : Op
  result : Int
  deriving DecidableEq, Inhabited
structure Pick where
  kind : Int
  a : Int
  b : Int
  deriving DecidableEq, Inhabited
structure Machine where
  c : Cfg
  cores : List Core
  caches : List Cache
  homes : List Home
  n0 : List Msg
  n1 : List Msg
  n2 : List Msg
  trace : List Commit
  odd : Int
instance : Inhabited Machine := ⟨⟨default, [], [], [], [], [], [], [], 0⟩⟩
namespace Machine
def net (m : Machine) (n : Nat) : List Msg := match n with | 0 => m.n0 | 1 => m.n1 | _ => m.n2
def setNet (m : Machine) (n : Nat) (l : List Msg) : Machine := match n with | 0 => { m with n0 := l } | 1 => { m with n1 := l } | _ => { m with n2 := l }
def left (m : Machine) (n : Nat) : Int := m.c.room n - (m.net n).length
def core (m : Machine) (i : Int) : Core := m.cores.getD i.toNat default
def cache (m : Machine) (i : Int) : Cache := m.caches.getD i.toNat default
def home (m : Machine) (i : Int) : Home := m.homes.getD i.toNat default
def setCore (m : Machine) (i : Int) (k : Core) : Machine := { m with cores := m.cores.set i.toNat k }
def setCache (m : Machine) (i : Int) (k : Cache) : Machine := { m with caches := m.caches.set i.toNat k }
def setHome (m : Machine) (i : Int) (k : Home) : Machine := { m with homes := m.homes.set i.toNat k }
/-- a message is sent; was it? -/
def send (m : Machine) (x : Msg) : Machine × Bool :=
  if !x.may m.c then (m, false)
  else let n := (netOf x.kind).toNat
    if m.left n = 0 then (m, false) else (m.setNet n (m.net n ++ [x]), true)
def commit (m : Machine) (core : Int) (x : Op) (n : Int) : Machine :=
  let k := m.core core
  { m.setCore core (k.commit n) with trace := m.trace ++ [⟨core, k.told.length, x, n⟩] }
/-- a core's cache does its head -/
def does (m : Machine) (core : Int) (x : Op) : Machine × Bool :=
  match (m.cache core).do x with
  | (k, n, e) => if e ≠ 0 then (m, false) else ((m.setCache core k).commit core x n, true)
def opLine (m : Machine) (x : Op) : Int := if inR x.addr m.c.size then m.c.lineOf x.addr else 0

def act (m : Machine) (core way : Int) : Machine × Bool :=
  let k := m.cache core
  match (if 0 < m.left 2 then k.finish else (k, Option.none)) with
  | (k', some x) => (m.setCache core k').send x
  | (_, Option.none) =>
    match (m.core core).head with
    | Option.none => (m, false)
    | some x =>
      if x.kind = 4 then (if k.f.isEmpty then (m.commit core x 0, true) else (m, false))
      else match m.does core x with
        | (m', true) => (m', true)
        | (_, false) =>
          if m.left 0 = 0 then (m, false)
          else match k.ask (m.opLine x) (opKind x) with
            | (k', y, e) =>
              if e = 0 then (m.setCache core k').send y
              else if e = 5 then
                match k.evict (m.c.setOf (m.opLine x)) (way % m.c.ways) with
                | (k', put, some_, e) =>
                  if e ≠ 0 then (m, false)
                  else if some_ then (m.setCache core k').send put else (m.setCache core k', true)
              else (m, false)

def answered (m : Machine) (x : Msg) : Machine :=
  match (m.cache x.to).take x with
  | (k, y, some_, e) =>
    let m1 := m.setCache x.to k
    let m2 := if e ≠ 0 then { m1 with odd := m1.odd + 1 } else m1
    if some_ then (m2.send y).1 else m2

def deliver (m : Machine) (network at_ : Int) : Machine × Bool :=
  if !inR network 3 || decide (at_ < 0) then (m, false)
  else match (m.net network.toNat)[at_.toNat]? with
  | Option.none => (m, false)
  | some x =>
    if network = 0 then
      match (m.home x.to).accept x with
      | (h, e) => if e ≠ 0 then (m, false) else ({ (m.setHome x.to h) with n0 := m.n0.eraseIdx at_.toNat }, true)
    else if network = 1 then
      if m.left 2 = 0 then (m, false) else (({ m with n1 := m.n1.eraseIdx at_.toNat }).answered x, true)
    else
      let m1 := { m with n2 := m.n2.eraseIdx at_.toNat }
      if x.kind = 11 then
        match (m1.home x.to).done x with
        | (h, e) => let m2 := m1.setHome x.to h; (if e ≠ 0 then { m2 with odd := m2.odd + 1 } else m2, true)
      else
        let m2 := m1.answered x
        match (m2.core x.to).head with
        | some y => if y.kind ≠ 4 ∧ m2.opLine y = x.line then ((m2.does x.to y).1, true) else (m2, true)
        | Option.none => (m2, true)

def work (m : Machine) (number at_ : Int) : Machine × Bool :=
  match (m.home number).work at_ m.left with
  | (h, x, did) =>
    let m1 := m.setHome number h
    match x with
    | some y => ((m1.send y).1, did)
    | Option.none => (m1, did)

def lookAhead (m : Machine) (core by_ : Int) : Machine × Bool :=
  match (m.core core).ahead by_ with
  | Option.none => (m, false)
  | some x =>
    if m.left 0 = 0 then (m, false)
    else match (m.cache core).ask (m.opLine x) (opKind x) with
      | (k, y, e) =>
        if e ≠ 0 then (m, false)
        else ((m.setCache core k).setCore core ((m.core core).try by_)).send y

def pick (m : Machine) (p : Pick) : Machine × Bool :=
  if p.a < 0 ∨ p.b < 0 then (m, false)
  else if p.kind = 1 then m.deliver p.a p.b
  else if p.kind = 2 ∧ p.a < m.homes.length then m.work p.a p.b
  else if p.kind = 0 ∧ p.a < m.cores.length then m.act p.a p.b
  else if p.kind = 3 ∧ p.a < m.cores.length then m.lookAhead p.a (1 + p.b % 4)
  else (m, false)

def new (c : Cfg) (programs : List (List Op)) : Option Machine :=
  if !c.ok || decide ((programs.length : Int) ≠ c.cores) || !programs.all (fits c) then Option.none
  else some ⟨c, programs.map Core.new, (coreList c.cores).map (Cache.new c), (coreList c.homes).map (Home.new c), [], [], [], [], 0⟩
def quiet (m : Machine) : Bool :=
  m.n0.isEmpty && m.n1.isEmpty && m.n2.isEmpty && m.cores.all (fun k => decide (k.left ≤ 0)) &&
  m.caches.all (fun k => k.f.isEmpty && k.b.isEmpty) && m.homes.all (fun h => h.q.isEmpty)
def allOdd (m : Machine) : Int := m.odd + (m.homes.map (·.odd)).sum
end Machine

end Mes
end
section
/- One line of a machine: what it is, and what must be so of it. -/
namespace Mes

def upd {α : Type} (f : Int → α) (i : Int) (v : α) : Int → α := fun j => if j = i then v else f j
@[simp] theorem upd_same {α : Type} (f : Int → α) (i : Int) (v : α) : upd f i v i = v := by simp [upd]
theorem upd_ne {α : Type} (f : Int → α) {i j : Int} (v : α) (h : j ≠ i) : upd f i v j = f j := by simp [upd, h]
theorem upd_app {α : Type} (f : Int → α) (i j : Int) (v : α) : upd f i v j = if j = i then v else f j := rfl

/-- Constants of a line: its number, its home, how many cores. -/
structure LC where
  c : Cfg
  l : Int
  deriving DecidableEq
def LC.h (C : LC) : Int := C.l % C.c.homes

structure LS where
  st : Int → Int
  wd : Int → Words
  miss : Int → Option Miss
  wb : Int → Option WB
  ent : Entry
  mem : Words
  cur : Option (Int × Int)
  M : List Msg
  req : Int → List Msg
  put : Int → List Msg
  V : Words

section msgs
variable (C : LC)
def mReq (i k : Int) : Msg := ⟨k, C.l, i, C.h, 0, 0, 0, Words.zero⟩
def mPut (i : Int) (w : Words) : Msg := ⟨3, C.l, i, C.h, 0, 0, 0, w⟩
def mFwdS (o r : Int) : Msg := ⟨4, C.l, C.h, o, r, 0, 0, Words.zero⟩
def mFwdM (o r A : Int) : Msg := ⟨5, C.l, C.h, o, r, A, 0, Words.zero⟩
def mInv (j r : Int) : Msg := ⟨6, C.l, C.h, j, r, 0, 0, Words.zero⟩
def mData (frm r who A own : Int) (w : Words) : Msg := ⟨7, C.l, frm, r, who, A, own, w⟩
def mGrant (r A : Int) : Msg := ⟨8, C.l, C.h, r, 0, A, 0, Words.zero⟩
def mAck (j r : Int) : Msg := ⟨9, C.l, j, r, 0, 0, 0, Words.zero⟩
def mPutAck (i : Int) : Msg := ⟨10, C.l, C.h, i, 0, 0, 0, Words.zero⟩
def mDone (r : Int) : Msg := ⟨11, C.l, r, C.h, 0, 0, 0, Words.zero⟩
end msgs

/-- Invalidations, or their acks, on the way: of who asked, but not of its own, nor of another one. -/
def IA (C : LC) (r o : Int) (m : Msg) : Prop := (∃ j, m = mInv C j r ∧ j ≠ r ∧ j ≠ o) ∨ (∃ j, m = mAck C j r ∧ j ≠ r)

def live (s : LS) (o : Int) : Prop := ∃ e p, s.wb o = some e ∧ e.live = true ∧ e.words = s.V ∧ s.put o = [p] ∧ p.kind = 3

/-- who owns the line in truth (-1: nobody), and what others may have -/
structure Shr (s : LS) (o : Int) : Prop where
  own : o ≠ -1 → 2 ≤ s.st o ∨ live s o
  oth : ∀ i, i ≠ o → s.st i ≤ 1
  one : (s.st o = 2 ∨ s.st o = 4) → ∀ j, j ≠ o → s.st j = 0

def Known (s : LS) : Prop := ∀ i, s.st i = 1 → s.ent.sharers.has i = true

inductive Mode (C : LC) (s : LS) : Prop
  | idle (h1 : s.cur = none) (h2 : s.M = []) (h3 : Shr s s.ent.owner) (h4 : Known s) (h5 : s.ent.owner = -1 → s.mem = s.V)
  | fin (r k : Int) (h1 : s.cur = some (r, k)) (h2 : s.M = [mDone C r]) (h3 : Shr s s.ent.owner) (h4 : Known s) (h5 : s.ent.owner = -1 → s.mem = s.V)
  | filled (r k : Int) (μ : Miss) (h1 : s.cur = some (r, k)) (h2 : s.M = []) (h3 : Shr s s.ent.owner) (h4 : Known s) (h5 : s.ent.owner = -1 → s.mem = s.V)
      (h6 : s.miss r = some μ) (h7 : μ.owes = true) (h8 : μ.needs = μ.got) (h9 : μ.kind = k)
  | re (r : Int) (μ : Miss) (h1 : s.cur = some (r, 1)) (h2 : s.M = [mData C C.h r 0 0 2 s.V]) (h3 : ∀ i, s.st i = 0) (h4 : s.ent.owner = r) (hr : r ≠ -1)
      (h6 : s.miss r = some μ) (h7 : μ = Miss.new C.l 1)
  | rs (r f w : Int) (μ : Miss) (h1 : s.cur = some (r, 1)) (h2 : s.M = [mData C f r w 0 1 s.V]) (h3 : Shr s s.ent.owner) (h4 : Known s) (h5 : s.ent.owner = -1 → s.mem = s.V)
      (h6 : s.miss r = some μ) (h7 : μ = Miss.new C.l 1) (h8 : ∀ i, s.st i ≠ 2 ∧ s.st i ≠ 4) (h9 : s.ent.sharers.has r = true) (h10 : s.ent.owner ≠ r)
  | rf (r : Int) (μ : Miss) (h1 : s.cur = some (r, 1)) (h2 : s.M = [mFwdS C s.ent.owner r]) (h3 : Shr s s.ent.owner) (h4 : Known s)
      (h6 : s.miss r = some μ) (h7 : μ = Miss.new C.l 1) (h9 : s.ent.sharers.has r = true) (h10 : s.ent.owner ≠ r) (h11 : s.ent.owner ≠ -1)
  | wf (r o A : Int) (μ : Miss) (L : List Msg) (h1 : s.cur = some (r, 2)) (h2 : s.M.Perm (mFwdM C o r A :: L)) (hL : ∀ m ∈ L, IA C r o m) (h3 : Shr s o)
      (h4 : ∀ i, s.st i = 1 → i = r ∨ mInv C i r ∈ L) (h5 : s.ent.owner = r) (h6 : s.miss r = some μ) (h7 : μ = { Miss.new C.l 2 with got := μ.got })
      (h8 : 0 ≤ μ.got) (h9 : μ.got + L.length = A) (h10 : o ≠ r) (h11 : o ≠ -1) (hr : r ≠ -1) (h12 : ∀ k, s.ent.sharers.has k = false)
  | wd (r f w A : Int) (μ : Miss) (L : List Msg) (h1 : s.cur = some (r, 2)) (h2 : s.M.Perm (mData C f r w A 4 s.V :: L)) (hL : ∀ m ∈ L, IA C r r m) (h3 : ∀ i, s.st i ≤ 1)
      (h4 : ∀ i, s.st i = 1 → i = r ∨ mInv C i r ∈ L) (h5 : s.ent.owner = r) (h6 : s.miss r = some μ) (h7 : μ = { Miss.new C.l 2 with got := μ.got })
      (h8 : 0 ≤ μ.got) (h9 : μ.got + L.length = A) (hr : r ≠ -1) (h12 : ∀ k, s.ent.sharers.has k = false)
  | wg (r A : Int) (μ : Miss) (L : List Msg) (h1 : s.cur = some (r, 2)) (h2 : s.M.Perm (mGrant C r A :: L)) (hL : ∀ m ∈ L, IA C r r m) (h3 : Shr s r)
      (h4 : ∀ i, s.st i = 1 → mInv C i r ∈ L) (h5 : s.ent.owner = r) (h6 : s.miss r = some μ) (h7 : μ = { Miss.new C.l 2 with got := μ.got })
      (h8 : 0 ≤ μ.got) (h9 : μ.got + L.length = A) (h10 : s.st r = 3) (hr : r ≠ -1) (h12 : ∀ k, s.ent.sharers.has k = false)
  | wn (r : Int) (μ : Miss) (h1 : s.cur = some (r, 2)) (hL : ∀ m ∈ s.M, IA C r r m) (h3 : if μ.granted = true then Shr s r ∧ s.st r = 3 else (∀ i, s.st i ≤ 1) ∧ μ.words = s.V)
      (h4 : ∀ i, s.st i = 1 → i = r ∨ mInv C i r ∈ s.M) (h5 : s.ent.owner = r) (h6 : s.miss r = some μ)
      (h7 : μ = { Miss.new C.l 2 with got := μ.got, needs := μ.needs, own := 4, words := μ.words, granted := μ.granted })
      (h8 : 0 ≤ μ.got) (h9 : μ.got + s.M.length = μ.needs) (h10 : s.M ≠ []) (hr : r ≠ -1) (h12 : ∀ k, s.ent.sharers.has k = false)

/-- who is active: asked, and its Done isn't on the way -/
def act? (C : LC) (s : LS) (i : Int) : Prop := (∃ k, s.cur = some (i, k)) ∧ s.M ≠ [mDone C i]

structure Inv (C : LC) (s : LS) : Prop where
  ok : C.c.ok = true
  line : 0 ≤ C.l ∧ C.l < C.c.lines
  st : ∀ i, 0 ≤ s.st i ∧ s.st i ≤ 4
  rng : ∀ i, ¬ (0 ≤ i ∧ i < C.c.cores) → s.st i = 0 ∧ s.miss i = none ∧ s.wb i = none ∧ s.put i = [] ∧ s.req i = []
  buf : ∀ i e, s.wb i = some e → s.st i = 0 ∧ s.miss i = none ∧ ∃ p, s.put i = [p] ∧ (p = mPutAck C i ∨ p = mPut C i e.words)
  nobuf : ∀ i, s.wb i = none → s.put i = []
  wait : ∀ i, ¬ act? C s i → (s.miss i = none ∧ s.req i = []) ∨ (∃ k, (k = 1 ∨ k = 2) ∧ s.miss i = some (Miss.new C.l k) ∧ s.req i = [mReq C i k])
  actv : ∀ i, act? C s i → s.req i = []
  low : ∀ i μ, s.miss i = some μ → μ.owes = false → (μ.kind = 1 → s.st i = 0) ∧ (μ.kind = 2 → s.st i ≠ 2 ∧ s.st i ≠ 4)
  val : ∀ i, s.st i ≠ 0 → s.wd i = s.V
  okV : valuesOk C.c s.V = true
  okW : ∀ i e, s.wb i = some e → valuesOk C.c e.words = true
  okM : valuesOk C.c s.mem = true
  ent : s.ent.may = true ∧ s.ent.sharers.cores = C.c.cores ∧ s.ent.sharers.most = C.c.pointers
  fine : ∀ m ∈ s.M, m.may C.c = true
  mode : Mode C s

end Mes
end
section
namespace Mes
variable {C : LC} {s : LS}

theorem IA.weak {r o : Int} {m : Msg} (h : IA C r o m) : IA C r r m := by
  rcases h with ⟨j, h1, h2, h3⟩ | h
  · exact .inl ⟨j, h1, h2, h2⟩
  · exact .inr h

theorem IA.kind {r o : Int} {m : Msg} (h : IA C r o m) : m.kind = 6 ∨ m.kind = 9 := by
  rcases h with ⟨j, rfl, _⟩ | ⟨j, rfl, _⟩
  · exact .inl rfl
  · exact .inr rfl

theorem Shr.perm {s : LS} {o : Int} (h : Shr s o) (M : List Msg) : Shr { s with M := M } o := ⟨h.own, h.oth, h.one⟩

theorem Mode.perm (h : Mode C s) {M : List Msg} (hp : s.M.Perm M) : Mode C { s with M := M } := by
  have e1 : ∀ x, s.M = [x] → M = [x] := fun x hx => by rw [hx] at hp; exact List.singleton_perm.1 hp |>.symm
  have e0 : s.M = [] → M = [] := fun hx => by rw [hx] at hp; exact hp.nil_eq.symm
  cases h with
  | idle h1 h2 h3 h4 h5 => exact .idle h1 (e0 h2) ⟨h3.own, h3.oth, h3.one⟩ h4 h5
  | fin r k h1 h2 h3 h4 h5 => exact .fin r k h1 (e1 _ h2) ⟨h3.own, h3.oth, h3.one⟩ h4 h5
  | filled r k μ h1 h2 h3 h4 h5 h6 h7 h8 h9 => exact .filled r k μ h1 (e0 h2) ⟨h3.own, h3.oth, h3.one⟩ h4 h5 h6 h7 h8 h9
  | re r μ h1 h2 h3 h4 hr h6 h7 => exact .re r μ h1 (e1 _ h2) h3 h4 hr h6 h7
  | rs r f w μ h1 h2 h3 h4 h5 h6 h7 h8 h9 h10 => exact .rs r f w μ h1 (e1 _ h2) ⟨h3.own, h3.oth, h3.one⟩ h4 h5 h6 h7 h8 h9 h10
  | rf r μ h1 h2 h3 h4 h6 h7 h9 h10 h11 => exact .rf r μ h1 (e1 _ h2) ⟨h3.own, h3.oth, h3.one⟩ h4 h6 h7 h9 h10 h11
  | wf r o A μ L h1 h2 hL h3 h4 h5 h6 h7 h8 h9 h10 h11 hr h12 => exact .wf r o A μ L h1 (hp.symm.trans h2) hL ⟨h3.own, h3.oth, h3.one⟩ h4 h5 h6 h7 h8 h9 h10 h11 hr h12
  | wd r f w A μ L h1 h2 hL h3 h4 h5 h6 h7 h8 h9 hr h12 => exact .wd r f w A μ L h1 (hp.symm.trans h2) hL h3 h4 h5 h6 h7 h8 h9 hr h12
  | wg r A μ L h1 h2 hL h3 h4 h5 h6 h7 h8 h9 h10 hr h12 => exact .wg r A μ L h1 (hp.symm.trans h2) hL ⟨h3.own, h3.oth, h3.one⟩ h4 h5 h6 h7 h8 h9 h10 hr h12
  | wn r μ h1 hL h3 h4 h5 h6 h7 h8 h9 h10 hr h12 =>
    refine .wn r μ h1 (fun m hm => hL m (hp.mem_iff.2 hm)) ?_ (fun i hi => (h4 i hi).imp id (hp.mem_iff.1)) h5 h6 h7 h8 ?_ ?_ hr h12
    · split
      · rename_i hg; rw [if_pos hg] at h3; exact ⟨⟨h3.1.own, h3.1.oth, h3.1.one⟩, h3.2⟩
      · rename_i hg; rw [if_neg hg] at h3; exact h3
    · rw [← h9, ← hp.length_eq]
    · intro he
      have he' : M = [] := he
      exact h10 (by rw [he'] at hp; exact hp.eq_nil)

theorem act_perm {M : List Msg} (hp : s.M.Perm M) (i : Int) : act? C { s with M := M } i ↔ act? C s i := by
  have e1 : ∀ x, s.M = [x] ↔ M = [x] := fun x => ⟨fun hx => by rw [hx] at hp; exact List.singleton_perm.1 hp |>.symm, fun hx => by rw [hx] at hp; exact List.perm_singleton.1 hp⟩
  simp only [act?, ne_eq, e1]

theorem Inv.perm (h : Inv C s) {M : List Msg} (hp : s.M.Perm M) : Inv C { s with M := M } where
  ok := h.ok
  line := h.line
  st := h.st
  rng := h.rng
  buf := h.buf
  nobuf := h.nobuf
  wait := fun i hi => h.wait i (fun ha => hi ((act_perm hp i).2 ha))
  actv := fun i hi => h.actv i ((act_perm hp i).1 hi)
  low := h.low
  val := h.val
  okV := h.okV
  okW := h.okW
  okM := h.okM
  ent := h.ent
  fine := fun m hm => h.fine m (hp.mem_iff.2 hm)
  mode := h.mode.perm hp

/-- who is active has a miss -/
theorem Inv.actMiss (h : Inv C s) {i : Int} (ha : act? C s i) : (s.miss i).isSome = true := by
  obtain ⟨⟨k, hk⟩, hm⟩ := ha
  cases h.mode with
  | idle h1 => simp [h1] at hk
  | fin r k' h1 h2 => rw [h1] at hk; simp at hk; obtain ⟨rfl, _⟩ := hk; exact absurd h2 hm
  | filled r k' μ h1 _ _ _ _ h6 => rw [h1] at hk; simp at hk; obtain ⟨rfl, _⟩ := hk; simp [h6]
  | re r μ h1 _ _ _ _ h6 => rw [h1] at hk; simp at hk; obtain ⟨rfl, _⟩ := hk; simp [h6]
  | rs r f w μ h1 _ _ _ _ h6 => rw [h1] at hk; simp at hk; obtain ⟨rfl, _⟩ := hk; simp [h6]
  | rf r μ h1 _ _ _ h6 => rw [h1] at hk; simp at hk; obtain ⟨rfl, _⟩ := hk; simp [h6]
  | wf r o A μ L h1 _ _ _ _ _ h6 => rw [h1] at hk; simp at hk; obtain ⟨rfl, _⟩ := hk; simp [h6]
  | wd r f w A μ L h1 _ _ _ _ _ h6 => rw [h1] at hk; simp at hk; obtain ⟨rfl, _⟩ := hk; simp [h6]
  | wg r A μ L h1 _ _ _ _ _ h6 => rw [h1] at hk; simp at hk; obtain ⟨rfl, _⟩ := hk; simp [h6]
  | wn r μ h1 _ _ _ _ h6 => rw [h1] at hk; simp at hk; obtain ⟨rfl, _⟩ := hk; simp [h6]

theorem Inv.rngSt (h : Inv C s) {i : Int} (hi : s.st i ≠ 0) : 0 ≤ i ∧ i < C.c.cores :=
  Classical.byContradiction fun hn => hi (h.rng i hn).1

theorem Inv.rngNeg (h : Inv C s) : s.st (-1) = 0 ∧ s.miss (-1) = none ∧ s.wb (-1) = none := by
  have := h.rng (-1) (by omega); exact ⟨this.1, this.2.1, this.2.2.1⟩

/-! ### a cache asks -/
theorem Inv.ask (h : Inv C s) {i k : Int} (hi : 0 ≤ i ∧ i < C.c.cores) (hm : s.miss i = none) (hw : s.wb i = none) (hc : canDo (s.st i) k = false) (hk : k = 1 ∨ k = 2) :
    Inv C { s with miss := upd s.miss i (some (Miss.new C.l k)), req := upd s.req i [mReq C i k] } := by
  have hna : ¬ act? C s i := fun ha => by simpa [hm] using h.actMiss ha
  have ne : ∀ {r : Int} {μ : Miss}, s.miss r = some μ → upd s.miss i (some (Miss.new C.l k)) r = some μ := by
    intro r μ hr
    rw [upd_ne _ _ (by rintro rfl; rw [hm] at hr; cases hr)]; exact hr
  exact {
    ok := h.ok, line := h.line, st := h.st,
    rng := fun j hj => by
      have hji : j ≠ i := by rintro rfl; exact hj hi
      simp only [upd_ne _ _ hji]; exact h.rng j hj
    buf := fun j e he => by
      have hji : j ≠ i := by rintro rfl; rw [hw] at he; cases he
      simp only [upd_ne _ _ hji]; exact h.buf j e he
    nobuf := h.nobuf
    wait := fun j hj => by
      by_cases hji : j = i
      · subst hji; simp only [upd_same]; exact .inr ⟨k, hk, rfl, rfl⟩
      · simp only [upd_ne _ _ hji]; exact h.wait j hj
    actv := fun j hj => by
      have hji : j ≠ i := by rintro rfl; exact hna hj
      simp only [upd_ne _ _ hji]; exact h.actv j hj
    low := fun j μ hμ ho => by
      by_cases hji : j = i
      · subst hji
        simp only [upd_same, Option.some.injEq] at hμ
        subst hμ
        simp only [canDo] at hc
        refine ⟨fun h1 => ?_, fun h2 => ?_⟩
        · have h1' : k = 1 := h1
          simpa [h1'] using hc
        · have h2' : k = 2 := h2
          simpa [h2'] using hc
      · simp only [upd_ne _ _ hji] at hμ; exact h.low j μ hμ ho
    val := h.val, okV := h.okV, okW := h.okW, okM := h.okM, ent := h.ent, fine := h.fine
    mode := by
      cases h.mode with
      | idle h1 h2 h3 h4 h5 => exact .idle h1 h2 ⟨h3.own, h3.oth, h3.one⟩ h4 h5
      | fin r k h1 h2 h3 h4 h5 => exact .fin r k h1 h2 ⟨h3.own, h3.oth, h3.one⟩ h4 h5
      | filled r k μ h1 h2 h3 h4 h5 h6 h7 h8 h9 => exact .filled r k μ h1 h2 ⟨h3.own, h3.oth, h3.one⟩ h4 h5 (ne h6) h7 h8 h9
      | re r μ h1 h2 h3 h4 hr h6 h7 => exact .re r μ h1 h2 h3 h4 hr (ne h6) h7
      | rs r f w μ h1 h2 h3 h4 h5 h6 h7 h8 h9 h10 => exact .rs r f w μ h1 h2 ⟨h3.own, h3.oth, h3.one⟩ h4 h5 (ne h6) h7 h8 h9 h10
      | rf r μ h1 h2 h3 h4 h6 h7 h9 h10 h11 => exact .rf r μ h1 h2 ⟨h3.own, h3.oth, h3.one⟩ h4 (ne h6) h7 h9 h10 h11
      | wf r o A μ L h1 h2 hL h3 h4 h5 h6 h7 h8 h9 h10 h11 hr h12 => exact .wf r o A μ L h1 h2 hL ⟨h3.own, h3.oth, h3.one⟩ h4 h5 (ne h6) h7 h8 h9 h10 h11 hr h12
      | wd r f w A μ L h1 h2 hL h3 h4 h5 h6 h7 h8 h9 hr h12 => exact .wd r f w A μ L h1 h2 hL h3 h4 h5 (ne h6) h7 h8 h9 hr h12
      | wg r A μ L h1 h2 hL h3 h4 h5 h6 h7 h8 h9 h10 hr h12 => exact .wg r A μ L h1 h2 hL ⟨h3.own, h3.oth, h3.one⟩ h4 h5 (ne h6) h7 h8 h9 h10 hr h12
      | wn r μ h1 hL h3 h4 h5 h6 h7 h8 h9 h10 hr h12 =>
        refine .wn r μ h1 hL ?_ h4 h5 (ne h6) h7 h8 h9 h10 hr h12
        split
        · rename_i hg; rw [if_pos hg] at h3; exact ⟨⟨h3.1.own, h3.1.oth, h3.1.one⟩, h3.2⟩
        · rename_i hg; rw [if_neg hg] at h3; exact h3 }
end Mes
end
section
namespace Mes
variable {C : LC} {s : LS}

/-- a cache lets a line go that it only shares -/
theorem Inv.evictS (h : Inv C s) {i : Int} (h1 : s.st i = 1) (hm : s.miss i = none) : Inv C { s with st := upd s.st i 0 } := by
  have le : ∀ j, upd s.st i 0 j ≤ s.st j := fun j => by
    by_cases hji : j = i
    · subst hji; simp [h1]
    · rw [upd_ne _ _ hji]; omega
  have out : ∀ {j : Int}, upd s.st i 0 j ≠ 0 → j ≠ i ∧ upd s.st i 0 j = s.st j := fun {j} hj => by
    by_cases hji : j = i
    · subst hji; simp at hj
    · exact ⟨hji, upd_ne _ _ hji⟩
  have sh : ∀ {o}, Shr s o → Shr { s with st := upd s.st i 0 } o := fun {o} a => by
    refine ⟨fun ho => ?_, fun j hj => Int.le_trans (le j) (a.oth j hj), fun ho j hj => ?_⟩
    · rcases a.own ho with b | b
      · refine .inl ?_
        show 2 ≤ upd s.st i 0 o
        rw [upd_ne _ _ (by rintro rfl; omega)]; exact b
      · exact .inr b
    · have ho' : upd s.st i 0 o = 2 ∨ upd s.st i 0 o = 4 := ho
      have hoi := out (j := o) (by omega)
      rw [hoi.2] at ho'
      have := a.one ho' j hj
      show upd s.st i 0 j = 0
      have l1 := le j
      by_cases hji : j = i
      · subst hji; simp
      · rw [upd_ne _ _ hji]; exact this
  have kn : Known s → Known { s with st := upd s.st i 0 } := fun a j hj => by
    have hj' : upd s.st i 0 j = 1 := hj
    have := out (j := j) (by omega)
    exact a j (by rw [← this.2]; exact hj')
  have one : ∀ {j : Int}, upd s.st i 0 j = 1 → j ≠ i ∧ s.st j = 1 := fun {j} hj => by
    have := out (j := j) (by omega)
    exact ⟨this.1, by rw [← this.2]; exact hj⟩
  exact {
    ok := h.ok, line := h.line,
    st := fun j => by
      show 0 ≤ upd s.st i 0 j ∧ upd s.st i 0 j ≤ 4
      have := h.st j
      by_cases hji : j = i
      · subst hji; simp
      · rw [upd_ne _ _ hji]; exact this
    rng := fun j hj => by
      have := h.rng j hj
      refine ⟨?_, this.2⟩
      show upd s.st i 0 j = 0
      by_cases hji : j = i
      · subst hji; simp
      · rw [upd_ne _ _ hji]; exact this.1
    buf := fun j e he => by
      have := h.buf j e he
      refine ⟨?_, this.2⟩
      show upd s.st i 0 j = 0
      by_cases hji : j = i
      · subst hji; simp
      · rw [upd_ne _ _ hji]; exact this.1
    nobuf := h.nobuf, wait := h.wait, actv := h.actv,
    low := fun j μ hμ ho => by
      have hji : j ≠ i := by rintro rfl; rw [hm] at hμ; cases hμ
      show (μ.kind = 1 → upd s.st i 0 j = 0) ∧ (μ.kind = 2 → upd s.st i 0 j ≠ 2 ∧ upd s.st i 0 j ≠ 4)
      rw [upd_ne _ _ hji]; exact h.low j μ hμ ho
    val := fun j hj => by
      have := out (j := j) hj
      exact h.val j (by rw [← this.2]; exact hj)
    okV := h.okV, okW := h.okW, okM := h.okM, ent := h.ent, fine := h.fine
    mode := by
      cases h.mode with
      | idle h1 h2 h3 h4 h5 => exact .idle h1 h2 (sh h3) (kn h4) h5
      | fin r k h1 h2 h3 h4 h5 => exact .fin r k h1 h2 (sh h3) (kn h4) h5
      | filled r k μ h1 h2 h3 h4 h5 h6 h7 h8 h9 => exact .filled r k μ h1 h2 (sh h3) (kn h4) h5 h6 h7 h8 h9
      | re r μ h1' h2 h3 h4 hr h6 h7 => have := h3 i; omega
      | rs r f w μ h1' h2 h3 h4 h5 h6 h7 h8 h9 h10 =>
        refine .rs r f w μ h1' h2 (sh h3) (kn h4) h5 h6 h7 (fun j => ?_) h9 h10
        have := h8 j
        show upd s.st i 0 j ≠ 2 ∧ upd s.st i 0 j ≠ 4
        by_cases hji : j = i
        · subst hji; simp
        · rw [upd_ne _ _ hji]; exact this
      | rf r μ h1 h2 h3 h4 h6 h7 h9 h10 h11 => exact .rf r μ h1 h2 (sh h3) (kn h4) h6 h7 h9 h10 h11
      | wf r o A μ L h1 h2 hL h3 h4 h5 h6 h7 h8 h9 h10 h11 hr h12 => exact .wf r o A μ L h1 h2 hL (sh h3) (fun j hj => h4 j (one hj).2) h5 h6 h7 h8 h9 h10 h11 hr h12
      | wd r f w A μ L h1 h2 hL h3 h4 h5 h6 h7 h8 h9 hr h12 => exact .wd r f w A μ L h1 h2 hL (fun j => Int.le_trans (le j) (h3 j)) (fun j hj => h4 j (one hj).2) h5 h6 h7 h8 h9 hr h12
      | wg r A μ L h1 h2 hL h3 h4 h5 h6 h7 h8 h9 h10 hr h12 =>
        refine .wg r A μ L h1 h2 hL (sh h3) (fun j hj => h4 j (one hj).2) h5 h6 h7 h8 h9 ?_ hr h12
        show upd s.st i 0 r = 3
        rw [upd_ne _ _ (by rintro rfl; rw [hm] at h6; cases h6)]; exact h10
      | wn r μ h1 hL h3 h4 h5 h6 h7 h8 h9 h10 hr h12 =>
        refine .wn r μ h1 hL ?_ (fun j hj => h4 j (one hj).2) h5 h6 h7 h8 h9 h10 hr h12
        split
        · rename_i hg; rw [if_pos hg] at h3
          refine ⟨sh h3.1, ?_⟩
          show upd s.st i 0 r = 3
          rw [upd_ne _ _ (by rintro rfl; rw [hm] at h6; cases h6)]; exact h3.2
        · rename_i hg; rw [if_neg hg] at h3; exact ⟨fun j => Int.le_trans (le j) (h3.1 j), h3.2⟩ }

/-- a cache lets a line go that it owns -/
theorem Inv.evictO (h : Inv C s) {i : Int} (h1 : 2 ≤ s.st i) (hm : s.miss i = none) (hv : valuesOk C.c (s.wd i) = true) (ln : Int) :
    Inv C { s with st := upd s.st i 0, wb := upd s.wb i (some ⟨ln, s.wd i, true⟩), put := upd s.put i [mPut C i (s.wd i)] } := by
  have hval : s.wd i = s.V := h.val i (by omega)
  have hri := h.rngSt (i := i) (by omega)
  have out : ∀ {j : Int}, upd s.st i 0 j ≠ 0 → j ≠ i ∧ upd s.st i 0 j = s.st j := fun {j} hj => by
    by_cases hji : j = i
    · subst hji; simp at hj
    · exact ⟨hji, upd_ne _ _ hji⟩
  have le : ∀ j, upd s.st i 0 j ≤ s.st j := fun j => by
    by_cases hji : j = i
    · subst hji; simp; omega
    · rw [upd_ne _ _ hji]; omega
  have sh : ∀ {o}, Shr s o → Shr { s with st := upd s.st i 0, wb := upd s.wb i (some ⟨ln, s.wd i, true⟩), put := upd s.put i [mPut C i (s.wd i)] } o := fun {o} a => by
    have hio : i = o := Classical.byContradiction fun hn => by have := a.oth i hn; omega
    subst hio
    refine ⟨fun _ => .inr ⟨⟨ln, s.wd i, true⟩, mPut C i (s.wd i), ?_, rfl, hval, ?_, rfl⟩, fun j hj => ?_, fun ho j hj => ?_⟩
    · show upd s.wb i _ i = _; simp
    · show upd s.put i _ i = _; simp
    · exact Int.le_trans (le j) (a.oth j hj)
    · have ho' : upd s.st i 0 i = 2 ∨ upd s.st i 0 i = 4 := ho
      simp at ho'
  have kn : Known s → Known { s with st := upd s.st i 0, wb := upd s.wb i (some ⟨ln, s.wd i, true⟩), put := upd s.put i [mPut C i (s.wd i)] } := fun a j hj => by
    have hj' : upd s.st i 0 j = 1 := hj
    have := out (j := j) (by omega)
    exact a j (by rw [← this.2]; exact hj')
  have one : ∀ {j : Int}, upd s.st i 0 j = 1 → j ≠ i ∧ s.st j = 1 := fun {j} hj => by
    have := out (j := j) (by omega)
    exact ⟨this.1, by rw [← this.2]; exact hj⟩
  exact {
    ok := h.ok, line := h.line,
    st := fun j => by
      show 0 ≤ upd s.st i 0 j ∧ upd s.st i 0 j ≤ 4
      have := h.st j
      by_cases hji : j = i
      · subst hji; simp
      · rw [upd_ne _ _ hji]; exact this
    rng := fun j hj => by
      have hji : j ≠ i := by rintro rfl; exact hj hri
      simp only [upd_ne _ _ hji]; exact h.rng j hj
    buf := fun j e he => by
      by_cases hji : j = i
      · subst hji
        simp only [upd_same, Option.some.injEq] at he ⊢
        subst he
        exact ⟨trivial, hm, _, rfl, .inr rfl⟩
      · simp only [upd_ne _ _ hji] at he ⊢; exact h.buf j e he
    nobuf := fun j he => by
      by_cases hji : j = i
      · subst hji; simp at he
      · simp only [upd_ne _ _ hji] at he ⊢; exact h.nobuf j he
    wait := h.wait, actv := h.actv,
    low := fun j μ hμ ho => by
      have hji : j ≠ i := by rintro rfl; rw [hm] at hμ; cases hμ
      show (μ.kind = 1 → upd s.st i 0 j = 0) ∧ (μ.kind = 2 → upd s.st i 0 j ≠ 2 ∧ upd s.st i 0 j ≠ 4)
      rw [upd_ne _ _ hji]; exact h.low j μ hμ ho
    val := fun j hj => by
      have := out (j := j) hj
      exact h.val j (by rw [← this.2]; exact hj)
    okV := h.okV,
    okW := fun j e he => by
      by_cases hji : j = i
      · subst hji; simp at he; subst he; exact hv
      · simp only [upd_ne _ _ hji] at he; exact h.okW j e he
    okM := h.okM, ent := h.ent, fine := h.fine
    mode := by
      cases h.mode with
      | idle h1 h2 h3 h4 h5 => exact .idle h1 h2 (sh h3) (kn h4) h5
      | fin r k h1 h2 h3 h4 h5 => exact .fin r k h1 h2 (sh h3) (kn h4) h5
      | filled r k μ h1 h2 h3 h4 h5 h6 h7 h8 h9 => exact .filled r k μ h1 h2 (sh h3) (kn h4) h5 h6 h7 h8 h9
      | re r μ h1' h2 h3 h4 hr h6 h7 => have := h3 i; omega
      | rs r f w μ h1' h2 h3 h4 h5 h6 h7 h8 h9 h10 =>
        refine .rs r f w μ h1' h2 (sh h3) (kn h4) h5 h6 h7 (fun j => ?_) h9 h10
        have := h8 j
        show upd s.st i 0 j ≠ 2 ∧ upd s.st i 0 j ≠ 4
        by_cases hji : j = i
        · subst hji; simp
        · rw [upd_ne _ _ hji]; exact this
      | rf r μ h1 h2 h3 h4 h6 h7 h9 h10 h11 => exact .rf r μ h1 h2 (sh h3) (kn h4) h6 h7 h9 h10 h11
      | wf r o A μ L h1 h2 hL h3 h4 h5 h6 h7 h8 h9 h10 h11 hr h12 => exact .wf r o A μ L h1 h2 hL (sh h3) (fun j hj => h4 j (one hj).2) h5 h6 h7 h8 h9 h10 h11 hr h12
      | wd r f w A μ L h1' h2 hL h3 h4 h5 h6 h7 h8 h9 hr h12 => have := h3 i; omega
      | wg r A μ L h1' h2 hL h3 h4 h5 h6 h7 h8 h9 h10 hr h12 =>
        have hir : i ≠ r := by rintro rfl; rw [hm] at h6; cases h6
        have := h3.oth i hir; omega
      | wn r μ h1' hL h3 h4 h5 h6 h7 h8 h9 h10 hr h12 =>
        have hir : i ≠ r := by rintro rfl; rw [hm] at h6; cases h6
        split at h3
        · have := h3.1.oth i hir; omega
        · have := h3.1 i; omega }

/-- a home starts a Put -/
theorem Inv.startPut (h : Inv C s) {i : Int} {w : Words} (hc : s.cur = none) (hp : s.put i = [mPut C i w]) :
    Inv C (if s.ent.owner = i then { s with ent := ⟨-1, s.ent.sharers⟩, mem := w, put := upd s.put i [mPutAck C i] } else { s with put := upd s.put i [mPutAck C i] }) := by
  obtain ⟨e, he⟩ : ∃ e, s.wb i = some e := by
    cases hb : s.wb i with
    | none => have := h.nobuf i hb; rw [hp] at this; cases this
    | some e => exact ⟨e, rfl⟩
  have hbuf := h.buf i e he
  have hri : 0 ≤ i ∧ i < C.c.cores := Classical.byContradiction fun hn => by have := (h.rng i hn).2.2.1; rw [he] at this; cases this
  have hw : w = e.words := by
    obtain ⟨p, hp1, hp2⟩ := hbuf.2.2
    rw [hp] at hp1
    have hp3 : mPut C i w = p := by simpa using hp1
    rcases hp2 with hp2 | hp2
    · rw [hp2] at hp3; simp [mPut, mPutAck] at hp3
    · rw [hp2] at hp3; simpa [mPut] using hp3
  cases h.mode with
  | idle h1 h2 h3 h4 h5 =>
    have base : ∀ (en : Entry) (me : Words), valuesOk C.c me = true → en.may = true ∧ en.sharers.cores = C.c.cores ∧ en.sharers.most = C.c.pointers →
        Mode C { s with ent := en, mem := me, put := upd s.put i [mPutAck C i] } → Inv C { s with ent := en, mem := me, put := upd s.put i [mPutAck C i] } := fun en me hme hen hmode =>
      { ok := h.ok, line := h.line, st := h.st,
        rng := fun j hj => by
          have hji : j ≠ i := by rintro rfl; exact hj hri
          simp only [upd_ne _ _ hji]; exact h.rng j hj
        buf := fun j e' he' => by
          by_cases hji : j = i
          · subst hji; simp only [upd_same]; exact ⟨hbuf.1, hbuf.2.1, _, rfl, .inl rfl⟩
          · simp only [upd_ne _ _ hji]; exact h.buf j e' he'
        nobuf := fun j he' => by
          by_cases hji : j = i
          · subst hji; have he'' : s.wb j = none := he'; rw [he] at he''; cases he''
          · simp only [upd_ne _ _ hji]; exact h.nobuf j he'
        wait := h.wait, actv := h.actv, low := h.low, val := h.val, okV := h.okV, okW := h.okW, okM := hme, ent := hen, fine := h.fine, mode := hmode }
    split
    · rename_i ho
      refine base _ _ (by rw [hw]; exact h.okW i e he) ?_ ?_
      · obtain ⟨a, b⟩ := h.ent
        refine ⟨?_, b⟩
        simp only [Entry.may, Bool.and_eq_true, decide_eq_true_eq] at a ⊢
        exact ⟨⟨a.1.1, by omega⟩, by have := a.1.2; have := a.2; omega⟩
      · have hl : live s i := by
          rcases h3.own (by omega) with hb | hb
          · rw [ho] at hb; have := hbuf.1; omega
          · rw [ho] at hb; exact hb
        refine .idle h1 h2 ⟨fun hn => absurd rfl hn, fun j _ => ?_, fun hx => ?_⟩ h4 (fun _ => ?_)
        · by_cases hj : j = s.ent.owner
          · rw [hj, ho]; show s.st i ≤ 1; have := hbuf.1; omega
          · exact h3.oth j hj
        · have hx' : s.st (-1) = 2 ∨ s.st (-1) = 4 := hx
          have := h.rngNeg.1; omega
        · obtain ⟨e', p, he', _, hv, _⟩ := hl
          rw [he] at he'; injection he' with he'; subst he'
          rw [hw]; exact hv
    · rename_i ho
      refine base s.ent s.mem h.okM h.ent (.idle h1 h2 ⟨fun hn => ?_, h3.oth, h3.one⟩ h4 h5)
      rcases h3.own hn with hb | ⟨e', p, a, b, c, d, f⟩
      · exact .inl hb
      · exact .inr ⟨e', p, a, b, c, by show upd s.put i _ _ = _; rw [upd_ne _ _ ho]; exact d, f⟩
  | fin r k h1 => rw [hc] at h1; cases h1
  | filled r k μ h1 => rw [hc] at h1; cases h1
  | re r μ h1 => rw [hc] at h1; cases h1
  | rs r f w μ h1 => rw [hc] at h1; cases h1
  | rf r μ h1 => rw [hc] at h1; cases h1
  | wf r o A μ L h1 => rw [hc] at h1; cases h1
  | wd r f w A μ L h1 => rw [hc] at h1; cases h1
  | wg r A μ L h1 => rw [hc] at h1; cases h1
  | wn r μ h1 => rw [hc] at h1; cases h1
end Mes
end
section
namespace Mes

theorem insertSorted_mem (n x : Int) (l : List Int) : x ∈ insertSorted n l ↔ x = n ∨ x ∈ l := by
  induction l with
  | nil => simp [insertSorted]
  | cons p l ih =>
    unfold insertSorted
    split
    · simp
    · simp only [List.mem_cons, ih]
      constructor
      · rintro (h | h | h) <;> simp [h]
      · rintro (h | h | h) <;> simp [h]

theorem insertSorted_length (n : Int) (l : List Int) : (insertSorted n l).length = l.length + 1 := by
  induction l with
  | nil => rfl
  | cons p l ih =>
    unfold insertSorted
    split
    · simp
    · simp [ih]

theorem rising_mono {c a b : Int} {l : List Int} (h : rising c b l = true) (hab : a ≤ b) : rising c a l = true := by
  cases l with
  | nil => rfl
  | cons p l =>
    simp only [rising, Bool.and_eq_true, decide_eq_true_eq] at h ⊢
    exact ⟨⟨by omega, h.1.2⟩, h.2⟩

theorem rising_insert {c a n : Int} {l : List Int} (h : rising c a l = true) (ha : a < n) (hc : n < c) (hn : n ∉ l) : rising c a (insertSorted n l) = true := by
  induction l generalizing a with
  | nil => simp [insertSorted, rising, ha, hc]
  | cons p l ih =>
    simp only [rising, Bool.and_eq_true, decide_eq_true_eq] at h
    unfold insertSorted
    split
    · rename_i hle
      have hne : n ≠ p := by rintro rfl; simp at hn
      simp only [rising, Bool.and_eq_true, decide_eq_true_eq]
      exact ⟨⟨ha, hc⟩, ⟨by omega, h.1.2⟩, h.2⟩
    · rename_i hle
      simp only [rising, Bool.and_eq_true, decide_eq_true_eq]
      exact ⟨h.1, ih h.2 (by omega) (by simp at hn; exact hn.2)⟩

theorem rising_bounds {c a x : Int} {l : List Int} (h : rising c a l = true) (hx : x ∈ l) : a < x ∧ x < c := by
  induction l generalizing a with
  | nil => simp at hx
  | cons p l ih =>
    simp only [rising, Bool.and_eq_true, decide_eq_true_eq] at h
    rcases List.mem_cons.1 hx with rfl | hx
    · exact h.1
    · have := ih h.2 hx; omega

theorem inR_iff {n m : Int} : inR n m = true ↔ 0 ≤ n ∧ n < m := by simp [inR]
theorem inC_iff {n a b : Int} : inC n a b = true ↔ a ≤ n ∧ n ≤ b := by simp [inC]

theorem SSet.may_iff {s : SSet} : s.may = true ↔ (1 ≤ s.cores ∧ s.cores ≤ 64) ∧ (0 ≤ s.most ∧ s.most ≤ 8) ∧ (s.pointers.length : Int) ≤ s.most ∧ (s.all = true → s.pointers = []) ∧ rising s.cores (-1) s.pointers = true := by
  simp only [SSet.may, Bool.and_eq_true, inC_iff, decide_eq_true_eq, Bool.not_eq_true', Bool.and_eq_false_iff]
  constructor
  · rintro ⟨⟨⟨⟨a, b⟩, c⟩, d⟩, e⟩
    refine ⟨a, b, c, fun h => ?_, e⟩
    rcases d with d | d
    · rw [h] at d; cases d
    · simpa using d
  · rintro ⟨a, b, c, d, e⟩
    refine ⟨⟨⟨⟨a, b⟩, c⟩, ?_⟩, e⟩
    cases hs : s.all with
    | false => exact .inl rfl
    | true => right; simp [d hs]

theorem SSet.add_may {s : SSet} {r : Int} (h : s.may = true) (hr : 0 ≤ r ∧ r < s.cores) : (s.add r).may = true := by
  have h' := SSet.may_iff.1 h
  obtain ⟨h1, h2, h3, h4, h5⟩ := h'
  unfold SSet.add
  split
  · exact h
  · rename_i hh
    split
    · exact SSet.may_iff.2 ⟨h1, h2, by simp; omega, fun _ => rfl, rfl⟩
    · rename_i hl
      have hall : s.all = false := by
        cases ha : s.all with
        | false => rfl
        | true => simp [SSet.has, ha, inR_iff, hr.1, hr.2] at hh
      refine SSet.may_iff.2 ⟨h1, h2, ?_, ?_, ?_⟩
      · rw [insertSorted_length]; push_cast; omega
      · intro ha; rw [hall] at ha; cases ha
      · refine rising_insert h5 (by omega) hr.2 ?_
        simpa [SSet.has, hall] using hh

theorem SSet.add_cores (s : SSet) (r : Int) : (s.add r).cores = s.cores := by
  unfold SSet.add; (repeat' split) <;> rfl
theorem SSet.add_most (s : SSet) (r : Int) : (s.add r).most = s.most := by
  unfold SSet.add; (repeat' split) <;> rfl

theorem SSet.add_self {s : SSet} {r : Int} (hr : 0 ≤ r ∧ r < s.cores) : (s.add r).has r = true := by
  unfold SSet.add
  split
  · rename_i h; exact h
  · rename_i hh
    split
    · simp [SSet.has, inR_iff, hr]
    · have hall : s.all = false := by
        cases ha : s.all with
        | false => rfl
        | true => simp [SSet.has, ha, inR_iff, hr.1, hr.2] at hh
      simp [SSet.has, hall, insertSorted_mem]

theorem SSet.add_mono {s : SSet} {r i : Int} (h : s.has i = true) (hi : 0 ≤ i ∧ i < s.cores) : (s.add r).has i = true := by
  unfold SSet.add
  split
  · exact h
  · split
    · simp [SSet.has, inR_iff, hi]
    · cases ha : s.all with
      | true => simp [SSet.has, inR_iff, hi]
      | false =>
        simp only [SSet.has, ha] at h ⊢
        simp [insertSorted_mem] at h ⊢
        exact .inr h

theorem SSet.has_rng {s : SSet} {i : Int} (hm : s.may = true) (h : s.has i = true) : 0 ≤ i ∧ i < s.cores := by
  have hm' := SSet.may_iff.1 hm
  unfold SSet.has at h
  split at h
  · exact inR_iff.1 h
  · have := rising_bounds hm'.2.2.2.2 (by simpa using h); omega

theorem SSet.clear_has (s : SSet) (k : Int) : s.clear.has k = false := by simp [SSet.clear, SSet.has]
theorem SSet.clear_may {s : SSet} (h : s.may = true) : s.clear.may = true := by
  obtain ⟨h1, h2, h3, h4, h5⟩ := SSet.may_iff.1 h
  exact SSet.may_iff.2 ⟨h1, h2, by simp [SSet.clear]; omega, by simp [SSet.clear], rfl⟩

theorem coreList_mem {n k : Int} : k ∈ coreList n ↔ 0 ≤ k ∧ k < n := by
  simp only [coreList, List.mem_map, List.mem_range]
  constructor
  · rintro ⟨a, ha, rfl⟩; simp only [Int.ofNat_eq_natCast]; omega
  · rintro ⟨h1, h2⟩; exact ⟨k.toNat, by omega, by simp only [Int.ofNat_eq_natCast]; omega⟩

theorem targets_mem {s : SSet} {but : List Int} {k : Int} : k ∈ s.targets but ↔ (0 ≤ k ∧ k < s.cores) ∧ s.has k = true ∧ k ∉ but := by
  simp only [SSet.targets, List.mem_filter, coreList_mem, Bool.and_eq_true, Bool.not_eq_true', List.contains_eq_mem, decide_eq_false_iff_not]

theorem coreList_nodup (n : Int) : (coreList n).Nodup := by
  unfold coreList
  exact List.Pairwise.map Int.ofNat (fun a b hab => by intro e; exact hab (Int.ofNat.inj e)) List.nodup_range

theorem filter_lt_of_out {l : List Int} {p : Int → Bool} {r : Int} (hr : r ∈ l) (hp : p r = false) : (l.filter p).length < l.length := by
  induction l with
  | nil => simp at hr
  | cons a l ih =>
    rcases List.mem_cons.1 hr with rfl | hr
    · rw [List.filter_cons, if_neg (by simp [hp]), List.length_cons]; exact Nat.lt_succ_of_le (List.length_filter_le _ _)
    · have := ih hr
      rw [List.filter_cons]
      split
      · rw [List.length_cons, List.length_cons]; omega
      · rw [List.length_cons]; omega

theorem targets_lt {s : SSet} {but : List Int} {r : Int} (hr : 0 ≤ r ∧ r < s.cores) (hb : r ∈ but) : ((s.targets but).length : Int) < s.cores := by
  have h : (s.targets but).length < (coreList s.cores).length := filter_lt_of_out (r := r) (coreList_mem.2 hr) (by simp [hb])
  have e : (coreList s.cores).length = s.cores.toNat := by simp [coreList]
  omega

end Mes
end
section
namespace Mes
variable {C : LC}

theorem ok_homes {c : Cfg} (h : c.ok = true) : 1 ≤ c.homes ∧ c.homes ≤ 16 := by
  simp only [Cfg.ok, isPow, pows, Bool.and_eq_true] at h
  have := h.1.1.1.1.1.1.1.1.1.1.1.2
  simp at this
  omega
theorem ok_cores {c : Cfg} (h : c.ok = true) : 1 ≤ c.cores ∧ c.cores ≤ 64 := by
  simp only [Cfg.ok, Bool.and_eq_true] at h
  exact inC_iff.1 h.1.1.1.1.1.1.1.1.1.1.1.1

theorem may_mk {m : Msg} (h : C.c.ok = true) (hl : 0 ≤ C.l ∧ C.l < C.c.lines) (hm : m.line = C.l) (hk : 1 ≤ m.kind ∧ m.kind ≤ 11) (hf : m.form C.c = true) : m.may C.c = true := by
  unfold Msg.may
  simp only [Bool.and_eq_true, h, hf, hm, inR_iff, hl.1, hl.2, true_and, and_true, bne_iff_ne]
  unfold netOf
  split
  · simp
  · split
    · simp
    · split
      · simp
      · omega

section
variable (h : C.c.ok = true) (hl : 0 ≤ C.l ∧ C.l < C.c.lines)
include h hl
theorem may_req {i k : Int} (hi : 0 ≤ i ∧ i < C.c.cores) (hk : k = 1 ∨ k = 2) : (mReq C i k).may C.c = true := by
  refine may_mk h hl rfl (by simp only [mReq]; omega) ?_
  rcases hk with rfl | rfl <;> simp [Msg.form, mReq, plainMsg, inR_iff, hi, LC.h]
theorem may_put {i : Int} {w : Words} (hi : 0 ≤ i ∧ i < C.c.cores) (hw : valuesOk C.c w = true) : (mPut C i w).may C.c = true := by
  refine may_mk h hl rfl (by simp [mPut]) ?_
  simp [Msg.form, mPut, plainMsg, inR_iff, hi, LC.h, hw]
theorem may_fwdS {o r : Int} (hi : 0 ≤ o ∧ o < C.c.cores) (hr : 0 ≤ r ∧ r < C.c.cores) (hn : o ≠ r) : (mFwdS C o r).may C.c = true := by
  refine may_mk h hl rfl (by simp [mFwdS]) ?_
  simp [Msg.form, mFwdS, inR_iff, hi, hr, LC.h, Ne.symm hn]
theorem may_fwdM {o r A : Int} (hi : 0 ≤ o ∧ o < C.c.cores) (hr : 0 ≤ r ∧ r < C.c.cores) (hn : o ≠ r) (hA : 0 ≤ A ∧ A < C.c.cores) : (mFwdM C o r A).may C.c = true := by
  refine may_mk h hl rfl (by simp [mFwdM]) ?_
  simp [Msg.form, mFwdM, inR_iff, hi, hr, LC.h, Ne.symm hn, hA]
theorem may_inv {o r : Int} (hi : 0 ≤ o ∧ o < C.c.cores) (hr : 0 ≤ r ∧ r < C.c.cores) (hn : o ≠ r) : (mInv C o r).may C.c = true := by
  refine may_mk h hl rfl (by simp [mInv]) ?_
  simp [Msg.form, mInv, inR_iff, hi, hr, LC.h, Ne.symm hn]
theorem may_data {f r w A own : Int} {ws : Words} (hr : 0 ≤ r ∧ r < C.c.cores) (hA : 0 ≤ A ∧ A < C.c.cores) (ho : own = 1 ∨ own = 2 ∨ own = 4)
    (hf : (w = 0 ∧ f = C.h) ∨ (w = 1 ∧ (0 ≤ f ∧ f < C.c.cores) ∧ f ≠ r)) (hw : valuesOk C.c ws = true) : (mData C f r w A own ws).may C.c = true := by
  refine may_mk h hl rfl (by simp [mData]) ?_
  rcases hf with ⟨rfl, rfl⟩ | ⟨rfl, hf, hn⟩
  · rcases ho with rfl | rfl | rfl <;> simp [Msg.form, mData, inR_iff, hr, LC.h, hA, hw]
  · rcases ho with rfl | rfl | rfl <;> simp [Msg.form, mData, inR_iff, hr, hA, hw, hf, hn]
theorem may_grant {r A : Int} (hr : 0 ≤ r ∧ r < C.c.cores) (hA : 0 ≤ A ∧ A < C.c.cores) : (mGrant C r A).may C.c = true := by
  refine may_mk h hl rfl (by simp [mGrant]) ?_
  simp [Msg.form, mGrant, inR_iff, hr, LC.h, hA, plainMsg]
theorem may_ack {o r : Int} (hi : 0 ≤ o ∧ o < C.c.cores) (hr : 0 ≤ r ∧ r < C.c.cores) (hn : o ≠ r) : (mAck C o r).may C.c = true := by
  refine may_mk h hl rfl (by simp [mAck]) ?_
  simp [Msg.form, mAck, inR_iff, hi, hr, plainMsg, hn]
theorem may_putAck {r : Int} (hr : 0 ≤ r ∧ r < C.c.cores) : (mPutAck C r).may C.c = true := by
  refine may_mk h hl rfl (by simp [mPutAck]) ?_
  simp [Msg.form, mPutAck, inR_iff, hr, LC.h, plainMsg]
theorem may_done {r : Int} (hr : 0 ≤ r ∧ r < C.c.cores) : (mDone C r).may C.c = true := by
  refine may_mk h hl rfl (by simp [mDone]) ?_
  simp [Msg.form, mDone, inR_iff, hr, LC.h, plainMsg]
end

theorem valuesOk_zero (c : Cfg) : valuesOk c Words.zero = true := by
  simp only [valuesOk, List.all_eq_true, List.mem_range]
  intro i hi
  have : Words.zero.get i = 0 := by
    simp only [Words.get, Words.zero, List.getD_eq_getElem?_getD, List.getElem?_replicate, hi, if_true, Option.getD_some]
  simp [wordOk, this, inC_iff]

/-- acks and bounds of a message that may be -/
theorem fwdM_bounds {o r A : Int} (h : (mFwdM C o r A).may C.c = true) : (0 ≤ r ∧ r < C.c.cores) ∧ (0 ≤ o ∧ o < C.c.cores) ∧ (0 ≤ A ∧ A < C.c.cores) := by
  simp only [Msg.may, Bool.and_eq_true] at h
  have := h.2
  simp [Msg.form, mFwdM, inR_iff] at this
  omega
theorem fwdS_bounds {o r : Int} (h : (mFwdS C o r).may C.c = true) : (0 ≤ r ∧ r < C.c.cores) ∧ (0 ≤ o ∧ o < C.c.cores) := by
  simp only [Msg.may, Bool.and_eq_true] at h
  have := h.2
  simp [Msg.form, mFwdS, inR_iff] at this
  omega
theorem inv_bounds {o r : Int} (h : (mInv C o r).may C.c = true) : (0 ≤ r ∧ r < C.c.cores) ∧ (0 ≤ o ∧ o < C.c.cores) := by
  simp only [Msg.may, Bool.and_eq_true] at h
  have := h.2
  simp [Msg.form, mInv, inR_iff] at this
  omega
end Mes
end
section
/- Lists: what is found behind a change. -/
namespace Mes

section find
variable {α : Type} (p : α → Bool)

theorem find_modify_findIdx {l : List α} {i : Nat} {g : α → α} (hg : ∀ x, p x = true → p (g x) = true) (h : l.findIdx? p = some i) : (l.modify i g).find? p = (l.find? p).map g := by
  induction l generalizing i with
  | nil => simp at h
  | cons a l ih =>
    rw [List.findIdx?_cons] at h
    cases hp : p a with
    | true => simp [hp] at h; subst h; simp [hp, hg]
    | false =>
      simp only [hp, Bool.false_eq_true, if_false, Option.map_eq_some_iff] at h
      obtain ⟨j, hj, rfl⟩ := h
      simp [hp, ih hj]

theorem find_modify_other {q : α → Bool} {l : List α} {i : Nat} {g : α → α} (hg : ∀ x, p x = true → q x = false ∧ q (g x) = false) (h : l.findIdx? p = some i) : (l.modify i g).find? q = l.find? q := by
  induction l generalizing i with
  | nil => simp at h
  | cons a l ih =>
    rw [List.findIdx?_cons] at h
    cases hp : p a with
    | true => simp [hp] at h; subst h; simp [hg a hp]
    | false =>
      simp only [hp, Bool.false_eq_true, if_false, Option.map_eq_some_iff] at h
      obtain ⟨j, hj, rfl⟩ := h
      simp [List.find?_cons, ih hj]

theorem find_erase_other {q : α → Bool} {l : List α} {i : Nat} (hg : ∀ x, p x = true → q x = false) (h : l.findIdx? p = some i) : (l.eraseIdx i).find? q = l.find? q := by
  induction l generalizing i with
  | nil => simp at h
  | cons a l ih =>
    rw [List.findIdx?_cons] at h
    cases hp : p a with
    | true => simp [hp] at h; subst h; simp [hg a hp]
    | false =>
      simp only [hp, Bool.false_eq_true, if_false, Option.map_eq_some_iff] at h
      obtain ⟨j, hj, rfl⟩ := h
      simp [List.find?_cons, ih hj]

theorem find_isSome_findIdx {l : List α} : (l.find? p).isSome = (l.findIdx? p).isSome := by
  induction l with
  | nil => rfl
  | cons a l ih =>
    rw [List.findIdx?_cons, List.find?_cons]
    cases p a with
    | true => rfl
    | false => simp [ih]
end find

/-- lists whose members have different keys -/
def Uniq {α : Type} (k : α → Int) (l : List α) : Prop := (l.map k).Nodup

section uniq
variable {α : Type} {k : α → Int}
theorem Uniq.nil : Uniq k ([] : List α) := List.nodup_nil
theorem find_key_none {l : List α} {n : Int} : l.find? (fun x => k x == n) = none ↔ n ∉ l.map k := by
  simp [List.find?_eq_none]
theorem Uniq.snoc {l : List α} {x : α} (h : Uniq k l) (hn : l.find? (fun y => k y == k x) = none) : Uniq k (l ++ [x]) := by
  unfold Uniq at *
  rw [List.map_append, List.nodup_append]
  refine ⟨h, by simp, ?_⟩
  intro a ha b hb hab
  simp at hb; subst hb; subst hab
  exact find_key_none.1 hn ha
theorem Uniq.modify {l : List α} (h : Uniq k l) {i : Nat} {g : α → α} (hg : ∀ x, k (g x) = k x) : Uniq k (l.modify i g) := by
  unfold Uniq at *
  have : (l.modify i g).map k = l.map k := by
    clear h
    induction l generalizing i with
    | nil => cases i <;> rfl
    | cons a l ih =>
      cases i with
      | zero => simp [hg]
      | succ i => simp [ih]
  rw [this]; exact h
theorem Uniq.erase {l : List α} (h : Uniq k l) (i : Nat) : Uniq k (l.eraseIdx i) := by
  unfold Uniq at *
  have : ((l.eraseIdx i).map k).Sublist (l.map k) := (List.eraseIdx_sublist l i).map k
  exact this.nodup h
/-- the one that was found is gone -/
theorem Uniq.find_erase {l : List α} (h : Uniq k l) {n : Int} {i : Nat} (hi : l.findIdx? (fun x => k x == n) = some i) : (l.eraseIdx i).find? (fun x => k x == n) = none := by
  induction l generalizing i with
  | nil => simp at hi
  | cons a l ih =>
    unfold Uniq at h
    rw [List.map_cons, List.nodup_cons] at h
    rw [List.findIdx?_cons] at hi
    by_cases hp : (k a == n) = true
    · simp only [hp, if_true, Option.some.injEq] at hi; subst hi
      have : k a = n := by simpa using hp
      rw [List.eraseIdx_zero, List.tail_cons, find_key_none, ← this]; exact h.1
    · simp only [hp, Bool.false_eq_true, if_false, Option.map_eq_some_iff] at hi
      obtain ⟨j, hj, rfl⟩ := hi
      simp only [List.eraseIdx_cons_succ, List.find?_cons, hp]
      exact ih h.2 hj
end uniq

/-! ### misses -/
theorem missOf_line {f : List Miss} {line : Int} {m : Miss} (h : missOf f line = some m) : m.line = line := by
  have := List.find?_some h; simpa using this
theorem missAt_isSome {f : List Miss} {line : Int} : (missAt f line).isSome = (missOf f line).isSome := (find_isSome_findIdx _).symm
theorem missOf_upd {f : List Miss} {line l : Int} {g : Miss → Miss} (hg : ∀ x, (g x).line = x.line) : missOf (updMiss f line g) l = if l = line then (missOf f l).map g else missOf f l := by
  cases h : missAt f line with
  | none =>
    rw [show updMiss f line g = f by unfold updMiss; rw [h]]
    have : missOf f line = none := by have := missAt_isSome (f := f) (line := line); rw [h] at this; simpa using this.symm
    split
    · rename_i e; subst e; simp [this]
    · rfl
  | some i =>
    rw [show updMiss f line g = f.modify i g by unfold updMiss; rw [h]]
    split
    · rename_i e; subst e
      exact find_modify_findIdx (fun m : Miss => m.line == l) (g := g) (by intro x hx; rw [hg]; exact hx) h
    · rename_i e
      exact find_modify_other (fun m : Miss => m.line == line) (q := fun m : Miss => m.line == l) (g := g) (fun x hx => by
          have hx' : x.line = line := by simpa using hx
          rw [hg, hx']; simpa using fun h => e h.symm) h
theorem missOf_snoc {f : List Miss} {m : Miss} {l : Int} : missOf (f ++ [m]) l = (missOf f l).or (if m.line = l then some m else none) := by
  simp only [missOf, List.find?_append, List.find?_singleton, beq_iff_eq]
theorem updMiss_length {f : List Miss} {line : Int} {g : Miss → Miss} : (updMiss f line g).length = f.length := by
  unfold updMiss; split <;> simp
theorem updMiss_uniq {f : List Miss} (h : Uniq Miss.line f) {line : Int} {g : Miss → Miss} (hg : ∀ x, (g x).line = x.line) : Uniq Miss.line (updMiss f line g) := by
  unfold updMiss; split
  · exact h
  · exact h.modify hg

/-! ### the buffer -/
theorem wbAt_isSome {b : List WB} {line : Int} : (wbAt b line).isSome = (wbOf b line).isSome := (find_isSome_findIdx _).symm
theorem wbOf_line {b : List WB} {line : Int} {e : WB} (h : wbOf b line = some e) : e.line = line := by
  have := List.find?_some h; simpa using this
theorem wbOf_kill {b : List WB} {line l : Int} : wbOf (wbKill b line) l = if l = line then (wbOf b l).map (fun e => { e with live := false }) else wbOf b l := by
  cases h : wbAt b line with
  | none =>
    rw [show wbKill b line = b by unfold wbKill; rw [h]]
    have : wbOf b line = none := by have := wbAt_isSome (b := b) (line := line); rw [h] at this; simpa using this.symm
    split
    · rename_i e; subst e; simp [this]
    · rfl
  | some i =>
    rw [show wbKill b line = b.modify i (fun e => { e with live := false }) by unfold wbKill; rw [h]]
    split
    · rename_i e; subst e
      exact find_modify_findIdx (fun m : WB => m.line == l) (by intro x hx; exact hx) h
    · rename_i e
      exact find_modify_other (fun m : WB => m.line == line) (q := fun m : WB => m.line == l) (g := fun e => { e with live := false }) (fun x hx => by
          have hx' : x.line = line := by simpa using hx
          simpa [hx'] using fun h => e h.symm) h
theorem wbKill_length {b : List WB} {line : Int} : (wbKill b line).length = b.length := by
  unfold wbKill; split <;> simp
theorem wbKill_uniq {b : List WB} (h : Uniq WB.line b) {line : Int} : Uniq WB.line (wbKill b line) := by
  unfold wbKill; split
  · exact h
  · exact h.modify (fun _ => rfl)
theorem wbOf_snoc {b : List WB} {e : WB} {l : Int} : wbOf (b ++ [e]) l = (wbOf b l).or (if e.line = l then some e else none) := by
  simp only [wbOf, List.find?_append, List.find?_singleton, beq_iff_eq]

end Mes
end
section
/- A cache's array: what is told of a line. -/
namespace Mes

/-- the array is in order: what is there stands in its set, once -/
structure AW (c : Cfg) (a : List Way) : Prop where
  len : a.length = (c.sets * c.ways).toNat
  home : ∀ (i : Nat) (w : Way), a[i]? = some w → w.there = true → (0 ≤ w.line ∧ w.line < c.lines) ∧ baseOf c w.line ≤ i ∧ i < baseOf c w.line + c.ways.toNat
  once : ∀ (i j : Nat) (v w : Way), a[i]? = some v → a[j]? = some w → v.there = true → w.there = true → v.line = w.line → i = j
  st : ∀ (i : Nat) (w : Way), a[i]? = some w → 0 ≤ w.state ∧ w.state ≤ 4

def Holds (a : List Way) (l : Int) (i : Nat) (w : Way) : Prop := a[i]? = some w ∧ w.there = true ∧ w.line = l

theorem has_iff {l : Int} {w : Way} : has l w = true ↔ w.there = true ∧ w.line = l := by simp [has]

theorem getElem?_waysFrom {c : Cfg} {a : List Way} {b i : Nat} : (waysFrom c a b)[i]? = if i < c.ways.toNat then a[b + i]? else none := by
  simp [waysFrom, List.getElem?_take, List.getElem?_drop]

section
variable {c : Cfg} {a : List Way} (h : AW c a)
include h

theorem AW.find {l : Int} {w : Way} : findWay c a l = some w ↔ ∃ i, Holds a l i w := by
  unfold findWay waysOf
  constructor
  · intro hf
    split at hf
    · have hm := List.mem_of_find?_eq_some hf
      have hp := List.find?_some hf
      obtain ⟨i, hi⟩ := List.mem_iff_getElem?.1 hm
      rw [getElem?_waysFrom] at hi
      split at hi
      · exact ⟨_, hi, has_iff.1 hp⟩
      · cases hi
    · cases hf
  · rintro ⟨i, hi, ht, hl⟩
    obtain ⟨hr, h1, h2⟩ := h.home i w hi ht
    rw [hl] at hr h1 h2
    rw [if_pos (by simp [inR_iff, hr])]
    have hmem : w ∈ waysFrom c a (baseOf c l) := List.mem_iff_getElem?.2 ⟨i - baseOf c l, by
      rw [getElem?_waysFrom, if_pos (by omega), show baseOf c l + (i - baseOf c l) = i by omega]; exact hi⟩
    cases hf : (waysFrom c a (baseOf c l)).find? (has l) with
    | none =>
      have := List.find?_eq_none.1 hf w hmem
      exact absurd (has_iff.2 ⟨ht, hl⟩) this
    | some v =>
      have hvm := List.mem_of_find?_eq_some hf
      have hvp := has_iff.1 (List.find?_some hf)
      obtain ⟨j, hj⟩ := List.mem_iff_getElem?.1 hvm
      rw [getElem?_waysFrom] at hj
      split at hj
      · have := h.once i _ w v hi hj ht hvp.1 (by rw [hl, hvp.2])
        rw [← this, hi] at hj
        exact hj.symm
      · cases hj

theorem AW.find_none {l : Int} : findWay c a l = none ↔ ∀ i w, ¬ Holds a l i w := by
  constructor
  · intro hn i w hh
    have := h.find.2 ⟨i, hh⟩
    rw [hn] at this; cases this
  · intro hn
    cases hf : findWay c a l with
    | none => rfl
    | some w => obtain ⟨i, hi⟩ := h.find.1 hf; exact absurd hi (hn i w)

theorem AW.look {l : Int} {i : Nat} {w : Way} (hh : Holds a l i w) : lookWay c a l = w := by
  unfold lookWay; rw [h.find.2 ⟨i, hh⟩]; rfl
theorem AW.look_none {l : Int} (hn : ∀ i w, ¬ Holds a l i w) : lookWay c a l = Way.none := by
  unfold lookWay; rw [h.find_none.2 hn]; rfl

/-- another array that holds the same of a line tells the same of it -/
theorem AW.same {a' : List Way} (h' : AW c a') {l : Int} (hs : ∀ i w, Holds a' l i w ↔ Holds a l i w) : findWay c a' l = findWay c a l := by
  cases hf : findWay c a l with
  | none => rw [h'.find_none]; intro i w hh; exact h.find_none.1 hf i w ((hs i w).1 hh)
  | some w => obtain ⟨i, hi⟩ := h.find.1 hf; exact h'.find.2 ⟨i, (hs i w).2 hi⟩

/-- the place that is told is the way that holds it -/
theorem AW.place {l : Int} {i : Nat} {w : Way} (hh : Holds a l i w) : ∃ p, placeOf c a l = some p ∧ baseOf c l + p = i := by
  obtain ⟨hi, ht, hl⟩ := hh
  obtain ⟨hr, h1, h2⟩ := h.home i w hi ht
  rw [hl] at hr h1 h2
  have hg : (waysFrom c a (baseOf c l))[i - baseOf c l]? = some w := by
    rw [getElem?_waysFrom, if_pos (by omega), show baseOf c l + (i - baseOf c l) = i by omega]; exact hi
  have hmem : w ∈ waysFrom c a (baseOf c l) := List.mem_iff_getElem?.2 ⟨_, hg⟩
  unfold placeOf waysOf
  rw [if_pos (by simp [inR_iff, hr])]
  cases hp : (waysFrom c a (baseOf c l)).findIdx? (has l) with
  | none =>
    have := List.findIdx?_eq_none_iff.1 hp w hmem
    rw [has_iff.2 ⟨ht, hl⟩] at this; cases this
  | some p =>
    refine ⟨p, rfl, ?_⟩
    obtain ⟨hlt, hpp, _⟩ := List.findIdx?_eq_some_iff_getElem.1 hp
    have hq : (waysFrom c a (baseOf c l))[p]? = some (waysFrom c a (baseOf c l))[p] := List.getElem?_eq_getElem hlt
    obtain ⟨v, hv⟩ : ∃ v, v = (waysFrom c a (baseOf c l))[p] := ⟨_, rfl⟩
    rw [← hv] at hq hpp
    have hvp := has_iff.1 hpp
    rw [getElem?_waysFrom] at hq
    split at hq
    · exact (h.once _ _ v w hq hi hvp.1 ht (by rw [hl, hvp.2]))
    · cases hq

omit h in
theorem place_none {l : Int} (hn : ∀ i w, ¬ Holds a l i w) : placeOf c a l = none := by
  unfold placeOf waysOf
  split
  · rw [List.findIdx?_eq_none_iff]
    intro w hw
    obtain ⟨i, hi⟩ := List.mem_iff_getElem?.1 hw
    rw [getElem?_waysFrom] at hi
    split at hi
    · cases hh : has l w with
      | false => rfl
      | true => exact absurd ⟨hi, has_iff.1 hh⟩ (hn _ w)
    · cases hi
  · rfl

/-- a line's way is changed -/
theorem AW.upd {l : Int} {f : Way → Way} (hf : ∀ w, (f w).line = w.line) (hst : ∀ w, 0 ≤ w.state ∧ w.state ≤ 4 → 0 ≤ (f w).state ∧ (f w).state ≤ 4) :
    AW c (updWay c a l f) ∧ (∀ k, k ≠ l → findWay c (updWay c a l f) k = findWay c a k) ∧
    (∀ w, findWay c a l = some w → findWay c (updWay c a l f) l = if (f w).there then some (f w) else none) ∧
    (findWay c a l = none → updWay c a l f = a) := by
  cases hfw : findWay c a l with
  | none =>
    have hn := h.find_none.1 hfw
    have e : updWay c a l f = a := by unfold updWay; rw [place_none hn]
    rw [e]
    refine ⟨h, fun _ _ => rfl, ?_, fun _ => rfl⟩
    intro w hw; cases hw
  | some w0 =>
    obtain ⟨i0, hh⟩ := h.find.1 hfw
    obtain ⟨p, hp, hpi⟩ := h.place hh
    have e : updWay c a l f = a.modify i0 f := by unfold updWay; rw [hp, ← hpi]
    rw [e]
    have get : ∀ i w, (a.modify i0 f)[i]? = some w → (i = i0 ∧ w = f w0) ∨ (i ≠ i0 ∧ a[i]? = some w) := by
      intro i w hw
      rw [List.getElem?_modify] at hw
      by_cases hi : i0 = i
      · subst hi
        rw [hh.1] at hw
        simp at hw
        exact .inl ⟨rfl, hw.symm⟩
      · simp [hi] at hw
        exact .inr ⟨fun e => hi e.symm, hw⟩
    have get0 : (a.modify i0 f)[i0]? = some (f w0) := by rw [List.getElem?_modify, hh.1]; simp
    have aw : AW c (a.modify i0 f) := by
      refine ⟨by rw [List.length_modify]; exact h.len, fun i w hw ht => ?_, fun i j v w hv hw ht ht' hl => ?_, fun i w hw => ?_⟩
      · rcases get i w hw with ⟨rfl, rfl⟩ | ⟨_, hw'⟩
        · have := h.home i w0 hh.1 hh.2.1
          rw [hf]; exact this
        · exact h.home i w hw' ht
      · rcases get i v hv with ⟨rfl, rfl⟩ | ⟨h1, hv'⟩
        · rcases get j w hw with ⟨rfl, _⟩ | ⟨h2, hw'⟩
          · rfl
          · exact h.once i j w0 w hh.1 hw' hh.2.1 ht' (by rw [← hl, hf])
        · rcases get j w hw with ⟨rfl, rfl⟩ | ⟨h2, hw'⟩
          · exact h.once i j v w0 hv' hh.1 ht hh.2.1 (by rw [hl, hf])
          · exact h.once i j v w hv' hw' ht ht' hl
      · rcases get i w hw with ⟨rfl, rfl⟩ | ⟨_, hw'⟩
        · exact hst w0 (h.st i w0 hh.1)
        · exact h.st i w hw'
    refine ⟨aw, fun k hk => h.same aw fun i w => ?_, ?_, fun e => by cases e⟩
    rotate_left
    intro w hw
    rotate_right
    · constructor
      · rintro ⟨x1, x2, x3⟩
        rcases get i w x1 with ⟨rfl, rfl⟩ | ⟨_, x1'⟩
        · rw [hf, hh.2.2] at x3; exact absurd x3.symm hk
        · exact ⟨x1', x2, x3⟩
      · rintro ⟨x1, x2, x3⟩
        have hi : i ≠ i0 := by rintro rfl; rw [hh.1] at x1; injection x1 with x1; rw [← x1, hh.2.2] at x3; exact hk x3.symm
        refine ⟨?_, x2, x3⟩
        rw [List.getElem?_modify]; simp [Ne.symm hi, x1]
    · injection hw with hw; subst hw
      split
      · rename_i ht
        exact aw.find.2 ⟨i0, get0, ht, by rw [hf, hh.2.2]⟩
      · rename_i ht
        rw [aw.find_none]
        rintro i w ⟨x1, x2, x3⟩
        rcases get i w x1 with ⟨rfl, rfl⟩ | ⟨hi, x1'⟩
        · exact ht x2
        · exact hi (h.once i i0 w w0 x1' hh.1 x2 hh.2.1 (by rw [x3, hh.2.2]))

/-- a line is laid -/
theorem AW.lay {l : Int} (hl : 0 ≤ l ∧ l < c.lines) (hn : findWay c a l = none) {p : Nat} (hp : freeOf c a l = some p) :
    AW c (layWay c a l p) ∧ (∀ k, k ≠ l → findWay c (layWay c a l p) k = findWay c a k) ∧ findWay c (layWay c a l p) l = some ⟨0, l, Words.zero, true⟩ := by
  have hn' := h.find_none.1 hn
  have hpf := hp
  unfold freeOf waysOf at hpf
  rw [if_pos (by simp [inR_iff, hl])] at hpf
  obtain ⟨hlt, hpp, _⟩ := List.findIdx?_eq_some_iff_getElem.1 hpf
  obtain ⟨v, hv⟩ : ∃ v, v = (waysFrom c a (baseOf c l))[p] := ⟨_, rfl⟩
  have hq : (waysFrom c a (baseOf c l))[p]? = some v := by rw [hv]; exact List.getElem?_eq_getElem hlt
  rw [← hv] at hpp
  have hpw : p < c.ways.toNat := by
    rw [getElem?_waysFrom] at hq
    split at hq
    · assumption
    · cases hq
  rw [getElem?_waysFrom, if_pos hpw] at hq
  have hvt : v.there = false := by simpa using hpp
  obtain ⟨i0, hi0⟩ : ∃ i0, i0 = baseOf c l + p := ⟨_, rfl⟩
  rw [← hi0] at hq
  have hlen : i0 < a.length := (List.getElem?_eq_some_iff.1 hq).1
  have e : layWay c a l p = a.set i0 ⟨0, l, Words.zero, true⟩ := by unfold layWay; rw [hi0]
  rw [e]
  have get : ∀ i w, (a.set i0 ⟨0, l, Words.zero, true⟩)[i]? = some w → (i = i0 ∧ w = ⟨0, l, Words.zero, true⟩) ∨ (i ≠ i0 ∧ a[i]? = some w) := by
    intro i w hw
    rw [List.getElem?_set] at hw
    by_cases hi : i0 = i
    · subst hi; simp [hlen] at hw; exact .inl ⟨rfl, hw.symm⟩
    · simp [hi] at hw; exact .inr ⟨fun e => hi e.symm, hw⟩
  have get0 : (a.set i0 ⟨0, l, Words.zero, true⟩)[i0]? = some ⟨0, l, Words.zero, true⟩ := by rw [List.getElem?_set]; simp [hlen]
  have aw : AW c (a.set i0 ⟨0, l, Words.zero, true⟩) := by
    refine ⟨by rw [List.length_set]; exact h.len, fun i w hw ht => ?_, fun i j v w hv hw ht ht' hl' => ?_, fun i w hw => ?_⟩
    · rcases get i w hw with ⟨rfl, rfl⟩ | ⟨_, hw'⟩
      · exact ⟨hl, by show baseOf c l ≤ i; omega, by show i < baseOf c l + c.ways.toNat; omega⟩
      · exact h.home i w hw' ht
    · rcases get i v hv with ⟨rfl, rfl⟩ | ⟨h1, hv'⟩
      · rcases get j w hw with ⟨rfl, _⟩ | ⟨h2, hw'⟩
        · rfl
        · exact absurd ⟨hw', ht', hl'.symm⟩ (hn' j w)
      · rcases get j w hw with ⟨rfl, rfl⟩ | ⟨h2, hw'⟩
        · exact absurd ⟨hv', ht, hl'⟩ (hn' i v)
        · exact h.once i j v w hv' hw' ht ht' hl'
    · rcases get i w hw with ⟨rfl, rfl⟩ | ⟨_, hw'⟩
      · simp
      · exact h.st i w hw'
  refine ⟨aw, fun k hk => h.same aw fun i w => ?_, aw.find.2 ⟨i0, get0, by simp [Way.there], rfl⟩⟩
  constructor
  · rintro ⟨x1, x2, x3⟩
    rcases get i w x1 with ⟨rfl, rfl⟩ | ⟨_, x1'⟩
    · exact absurd x3.symm hk
    · exact ⟨x1', x2, x3⟩
  · rintro ⟨x1, x2, x3⟩
    have hi : i ≠ i0 := by rintro rfl; rw [hq] at x1; injection x1 with x1; rw [← x1, hvt] at x2; cases x2
    exact ⟨by rw [List.getElem?_set]; simp [Ne.symm hi, x1], x2, x3⟩
end

theorem AW.new {c : Cfg} : AW c (List.replicate (c.sets * c.ways).toNat Way.none) := by
  have get : ∀ (i : Nat) (w : Way), (List.replicate (c.sets * c.ways).toNat Way.none)[i]? = some w → w = Way.none := by
    intro i w hw
    rw [List.getElem?_replicate] at hw
    split at hw
    · injection hw with hw; exact hw.symm
    · cases hw
  refine ⟨by simp, fun i w hw ht => ?_, fun i j v w hv hw ht _ _ => ?_, fun i w hw => ?_⟩
  · rw [get i w hw] at ht; cases ht
  · rw [get i v hv] at ht; cases ht
  · rw [get i w hw]; simp [Way.none]
end Mes
end
section
/- A cache: what must be so of it, and what each call makes of each line. -/
namespace Mes

theorem valuesOk_iff {c : Cfg} {w : Words} : valuesOk c w = true ↔ ∀ i, i < 8 → (-2147483648 ≤ w.get i ∧ w.get i ≤ 2147483647) ∧ ((i : Int) < c.words ∨ w.get i = 0) := by
  simp only [valuesOk, List.all_eq_true, List.mem_range, wordOk, Bool.and_eq_true, inC_iff, Bool.or_eq_true, decide_eq_true_eq, beq_iff_eq]

theorem Words.get_eq {w : Words} {i : Nat} (hi : i < 8) : w.l[i]? = some (w.get i) := by
  unfold Words.get
  have : i < w.l.length := by rw [w.len]; exact hi
  simp [List.getD_eq_getElem?_getD, List.getElem?_eq_getElem this]

theorem oddWords_iff {c : Cfg} {w : Words} : oddWords c w = false ↔ ∀ i, i < 8 → c.words.toNat ≤ i → w.get i = 0 := by
  unfold oddWords
  rw [List.any_eq_false]
  constructor
  · intro h i hi hc
    have hm : w.get i ∈ w.l.drop c.words.toNat := List.mem_iff_getElem?.2 ⟨i - c.words.toNat, by
      rw [List.getElem?_drop, show c.words.toNat + (i - c.words.toNat) = i by omega, Words.get_eq hi]⟩
    have := h _ hm; simpa using this
  · intro h x hx
    obtain ⟨j, hj⟩ := List.mem_iff_getElem?.1 hx
    rw [List.getElem?_drop] at hj
    have hlt := (List.getElem?_eq_some_iff.1 hj).1
    rw [w.len] at hlt
    rw [Words.get_eq hlt] at hj
    injection hj with hj
    have := h _ hlt (by omega)
    rw [← hj, this]; simp

theorem not_odd {c : Cfg} {w : Words} (h : valuesOk c w = true) : oddWords c w = false :=
  oddWords_iff.2 fun i hi hc => by
    have := (valuesOk_iff.1 h i hi).2
    rcases this with a | a
    · omega
    · exact a

theorem Words.zero_get (i : Nat) : Words.zero.get i = 0 := by
  simp only [Words.get, Words.zero, List.getD_eq_getElem?_getD, List.getElem?_replicate]
  split <;> rfl

theorem valuesOk_zero' (c : Cfg) : valuesOk c Words.zero = true :=
  valuesOk_iff.2 fun i _ => by rw [Words.zero_get]; omega

/-- a miss that may be -/
structure MOk (c : Cfg) (m : Miss) : Prop where
  words : valuesOk c m.words = true
  kind : m.kind = 1 ∨ m.kind = 2
  needs : -1 ≤ m.needs
  got : 0 ≤ m.got
  own : m.needs ≠ -1 → m.own = 1 ∨ m.own = 2 ∨ m.own = 4
  owes : m.owes = true → m.needs = m.got
  lone : m.needs ≠ -1 → m.got ≤ m.needs

structure CInv (c : Cfg) (k : Cache) : Prop where
  cfg : k.c = c
  aw : AW c k.a
  uf : Uniq Miss.line k.f
  ub : Uniq WB.line k.b
  lf : (k.f.length : Int) ≤ c.mshrs
  lb : (k.b.length : Int) ≤ c.writebacks
  lock : ∀ l, (missOf k.f l).isSome = true ↔ ∃ w, findWay c k.a l = some w ∧ w.locked = true
  nobuf : ∀ l, (wbOf k.b l).isSome = true → findWay c k.a l = none
  okW : ∀ l w, findWay c k.a l = some w → valuesOk c w.words = true
  okB : ∀ l e, wbOf k.b l = some e → valuesOk c e.words = true ∧ (0 ≤ l ∧ l < c.lines)
  okF : ∀ l m, missOf k.f l = some m → MOk c m

theorem CInv.new {c : Cfg} (hc : c.ok = true) (core : Int) : CInv c (Cache.new c core) := by
  have hm : 1 ≤ c.mshrs ∧ 1 ≤ c.writebacks := by
    simp only [Cfg.ok, Bool.and_eq_true, inC_iff] at hc
    omega
  have hn : ∀ l, findWay c (Cache.new c core).a l = none := fun l => AW.new.find_none.2 fun i w ⟨h1, h2, _⟩ => by
    simp only [List.getElem?_replicate] at h1
    split at h1
    · injection h1 with h1; rw [← h1] at h2; cases h2
    · cases h1
  refine ⟨rfl, AW.new, Uniq.nil, Uniq.nil, ?_, ?_, fun l => ?_, fun l h => ?_, fun l w h => ?_, fun l e h => ?_, fun l m h => ?_⟩
  · simp [Cache.new]; omega
  · simp [Cache.new]; omega
  · rw [hn]; simp [Cache.new, missOf]
  · exact hn l
  · rw [hn] at h; cases h
  · simp [Cache.new, wbOf] at h
  · simp [Cache.new, missOf] at h

section
variable {c : Cfg} {k : Cache} (h : CInv c k)
include h

theorem CInv.look_some {l : Int} {w : Way} (hw : findWay c k.a l = some w) : k.look l = w := by
  unfold Cache.look lookWay; rw [h.cfg, hw]; rfl
theorem CInv.look_none {l : Int} (hw : findWay c k.a l = none) : k.look l = Way.none := by
  unfold Cache.look lookWay; rw [h.cfg, hw]; rfl
theorem CInv.st_rng (l : Int) : 0 ≤ (k.look l).state ∧ (k.look l).state ≤ 4 := by
  cases hw : findWay c k.a l with
  | none => rw [h.look_none hw]; simp [Way.none]
  | some w =>
    rw [h.look_some hw]
    obtain ⟨i, hi⟩ := h.aw.find.1 hw
    exact h.aw.st i w hi.1
theorem CInv.found {l : Int} (hs : (k.look l).state ≠ 0) : findWay c k.a l = some (k.look l) := by
  cases hw : findWay c k.a l with
  | none => rw [h.look_none hw] at hs; exact absurd rfl hs
  | some w => rw [h.look_some hw]
theorem CInv.rng_of {l : Int} {w : Way} (hw : findWay c k.a l = some w) : (0 ≤ l ∧ l < c.lines) ∧ w.line = l ∧ w.there = true := by
  obtain ⟨i, hi⟩ := h.aw.find.1 hw
  have := (h.aw.home i w hi.1 hi.2.1).1
  rw [hi.2.2] at this
  exact ⟨this, hi.2.2, hi.2.1⟩
theorem CInv.look_ok (l : Int) : valuesOk c (k.look l).words = true := by
  cases hw : findWay c k.a l with
  | none => rw [h.look_none hw]; exact valuesOk_zero' c
  | some w => rw [h.look_some hw]; exact h.okW l w hw
theorem CInv.miss_there {l : Int} (hm : (missOf k.f l).isSome = true) : ∃ w, findWay c k.a l = some w ∧ w.locked = true := (h.lock l).1 hm
theorem CInv.buf_st {l : Int} (hb : (wbOf k.b l).isSome = true) : (k.look l).state = 0 ∧ missOf k.f l = none := by
  have hn := h.nobuf l hb
  refine ⟨by rw [h.look_none hn]; rfl, ?_⟩
  cases hm : missOf k.f l with
  | none => rfl
  | some m =>
    obtain ⟨w, hw, _⟩ := h.miss_there (l := l) (by rw [hm]; rfl)
    rw [hn] at hw; cases hw

/-- a line's state and words are others -/
theorem CInv.setA {l st : Int} {ws : Words} {w : Way} (hw : findWay c k.a l = some w) (hst : 0 ≤ st ∧ st ≤ 4) (hok : valuesOk c ws = true) {f : List Miss} {b : List WB}
    (huf : Uniq Miss.line f) (hub : Uniq WB.line b) (hlf : (f.length : Int) ≤ c.mshrs) (hlb : (b.length : Int) ≤ c.writebacks)
    (hfs : ∀ x, (missOf f x).isSome = (missOf k.f x).isSome) (hbs : ∀ x, (wbOf b x).isSome = true → (wbOf k.b x).isSome = true ∨ (x = l ∧ st = 0 ∧ w.locked = false))
    (hokB : ∀ x e, wbOf b x = some e → valuesOk c e.words = true) (hokF : ∀ x m, missOf f x = some m → MOk c m) :
    CInv c { k with a := setWay c k.a l st ws, f := f, b := b } ∧
    (∀ x, lookWay c (setWay c k.a l st ws) x = if x = l then (if st = 0 ∧ w.locked = false then Way.none else ⟨st, w.line, if st = 0 then Words.zero else ws, w.locked⟩) else lookWay c k.a x) := by
  have e : setWay c k.a l st ws = updWay c k.a l fun w => { w with state := st, words := if st = 0 then Words.zero else ws } := by
    unfold setWay; rw [if_neg (by rw [not_odd hok]; simp; omega)]
  obtain ⟨u1, u2, u3, _⟩ := h.aw.upd (l := l) (f := fun w => { w with state := st, words := if st = 0 then Words.zero else ws }) (fun _ => rfl) (fun _ _ => hst)
  rw [← e] at u1 u2 u3
  have u3' := u3 w hw
  have hth : Way.there { w with state := st, words := if st = 0 then Words.zero else ws } = !(decide (st = 0) && !w.locked) := by
    simp [Way.there]
    cases w.locked <;> simp
    by_cases hs : st = 0 <;> simp [hs]
  rw [hth] at u3'
  constructor
  · refine ⟨h.cfg, u1, huf, hub, hlf, hlb, fun x => ?_, fun x hx => ?_, fun x v hv => ?_, fun x e he => ⟨hokB x e he, ?_⟩, hokF⟩
    · show (missOf f x).isSome = true ↔ ∃ v, findWay c (setWay c k.a l st ws) x = some v ∧ v.locked = true
      rw [hfs x, h.lock x]
      by_cases hxl : x = l
      · subst hxl
        rw [u3', hw]
        constructor
        · rintro ⟨v, hv, hl⟩
          injection hv with hv; subst hv
          exact ⟨_, if_pos (by simp [hl]), hl⟩
        · rintro ⟨v, hv, hl⟩
          split at hv
          · injection hv with hv; subst hv; exact ⟨w, rfl, hl⟩
          · cases hv
      · rw [u2 x hxl]
    · show findWay c (setWay c k.a l st ws) x = none
      by_cases hxl : x = l
      · subst hxl
        rcases hbs x hx with a | ⟨_, a, b⟩
        · have := h.nobuf x a; rw [hw] at this; cases this
        · rw [u3']; simp [a, b]
      · rw [u2 x hxl]
        rcases hbs x hx with a | ⟨a, _⟩
        · exact h.nobuf x a
        · exact absurd a hxl
    · have hv' : findWay c (setWay c k.a l st ws) x = some v := hv
      by_cases hxl : x = l
      · subst hxl
        rw [u3'] at hv'
        split at hv'
        · injection hv' with hv'; subst hv'
          show valuesOk c (if st = 0 then Words.zero else ws) = true
          split
          · exact valuesOk_zero' c
          · exact hok
        · cases hv'
      · rw [u2 x hxl] at hv'; exact h.okW x v hv'
    · rcases hbs x (by rw [he]; rfl) with a | ⟨a, _⟩
      · obtain ⟨e', he'⟩ := Option.isSome_iff_exists.1 a
        exact (h.okB x e' he').2
      · rw [a]; exact (h.rng_of hw).1
  · intro x
    split
    · rename_i hxl; subst hxl
      unfold lookWay
      rw [u3']
      by_cases hz : st = 0 ∧ w.locked = false
      · rw [if_neg (by simp [hz]), if_pos hz]; rfl
      · have : (!(decide (st = 0) && !w.locked)) = true := by
          by_cases hs : st = 0
          · have : w.locked = true := by cases hl : w.locked with
              | true => rfl
              | false => exact absurd ⟨hs, hl⟩ hz
            simp [hs, this]
          · simp [hs]
        rw [if_pos this, if_neg hz]; rfl
    · rename_i hxl
      unfold lookWay; rw [u2 x hxl]

/-- the misses, or the buffer, are others: nothing else -/
theorem CInv.setFB {f : List Miss} {b : List WB}
    (huf : Uniq Miss.line f) (hub : Uniq WB.line b) (hlf : (f.length : Int) ≤ c.mshrs) (hlb : (b.length : Int) ≤ c.writebacks)
    (hfs : ∀ x, (missOf f x).isSome = (missOf k.f x).isSome) (hbs : ∀ x, (wbOf b x).isSome = true → (wbOf k.b x).isSome = true)
    (hokB : ∀ x e, wbOf b x = some e → valuesOk c e.words = true) (hokF : ∀ x m, missOf f x = some m → MOk c m) :
    CInv c { k with f := f, b := b } where
  cfg := h.cfg
  aw := h.aw
  uf := huf
  ub := hub
  lf := hlf
  lb := hlb
  lock := fun x => by show (missOf f x).isSome = true ↔ _; rw [hfs x]; exact h.lock x
  nobuf := fun x hx => h.nobuf x (hbs x hx)
  okW := h.okW
  okB := fun x e he => ⟨hokB x e he, by
    obtain ⟨e', he'⟩ := Option.isSome_iff_exists.1 (hbs x (by rw [he]; rfl))
    exact (h.okB x e' he').2⟩
  okF := hokF
end
end Mes
end
section
namespace Mes
section
variable {c : Cfg} {k : Cache} (h : CInv c k)
include h

omit h in
theorem missNew (l kd x : Int) (hm : missOf k.f l = none) : missOf (k.f ++ [Miss.new l kd]) x = if x = l then some (Miss.new l kd) else missOf k.f x := by
  rw [missOf_snoc]
  by_cases hx : x = l
  · subst hx; simp [hm, Miss.new]
  · have : ¬ (Miss.new l kd).line = x := fun e => hx e.symm
    rw [if_neg hx, if_neg this]; simp

theorem CInv.ask (l kd : Int) :
    ((k.ask l kd).2.2 ≠ 0 → (k.ask l kd).1 = k ∧ (k.ask l kd).2.1 = Msg.none) ∧
    ((k.ask l kd).2.2 = 0 → CInv c (k.ask l kd).1 ∧ (k.ask l kd).2.1 = k.home kd l ∧ (0 ≤ l ∧ l < c.lines) ∧ (kd = 1 ∨ kd = 2) ∧ missOf k.f l = none ∧ wbOf k.b l = none ∧ k.can l kd = false ∧
      (k.ask l kd).1.core = k.core ∧ (k.ask l kd).1.b = k.b ∧ (k.ask l kd).1.f = k.f ++ [Miss.new l kd] ∧
      ∀ x, ((k.ask l kd).1.look x).state = (k.look x).state ∧ ((k.ask l kd).1.look x).words = (k.look x).words) := by
  unfold Cache.ask
  split
  · exact ⟨fun _ => ⟨rfl, rfl⟩, fun e => by cases e⟩
  rename_i hg1
  have hg1' : (0 ≤ l ∧ l < c.lines) ∧ (kd = 1 ∨ kd = 2) := by
    simp only [h.cfg, Bool.or_eq_true, Bool.not_eq_true', Bool.and_eq_true, bne_iff_ne, not_or] at hg1
    refine ⟨inR_iff.1 (by simpa using hg1.1), ?_⟩
    have := hg1.2
    by_cases h1 : kd = 1
    · exact .inl h1
    · by_cases h2 : kd = 2
      · exact .inr h2
      · exact absurd ⟨h1, h2⟩ this
  split
  · exact ⟨fun _ => ⟨rfl, rfl⟩, fun e => by cases e⟩
  rename_i hg2
  simp only [Bool.or_eq_true, not_or] at hg2
  have hm : missOf k.f l = none := by simpa using hg2.1.1
  have hb : wbOf k.b l = none := by simpa using hg2.1.2
  have hcan : k.can l kd = false := by simpa using hg2.2
  split
  · exact ⟨fun _ => ⟨rfl, rfl⟩, fun e => by cases e⟩
  rename_i hg3
  rw [h.cfg] at hg3
  have hlen : ((k.f ++ [Miss.new l kd]).length : Int) ≤ c.mshrs := by have := h.lf; simp; omega
  have huf : Uniq Miss.line (k.f ++ [Miss.new l kd]) := h.uf.snoc hm
  have hokF : ∀ x m, missOf (k.f ++ [Miss.new l kd]) x = some m → MOk c m := fun x m hx => by
    rw [missNew l kd x hm] at hx
    split at hx
    · injection hx with hx; subst hx; exact ⟨valuesOk_zero' c, hg1'.2, by simp [Miss.new], by simp [Miss.new], fun e => absurd rfl e, fun e => (by cases e), fun e => absurd rfl e⟩
    · exact h.okF x m hx
  have fin : ∀ (a : List Way), AW c a → (∀ x, x ≠ l → findWay c a x = findWay c k.a x) → (∃ w, findWay c a l = some w ∧ w.locked = true ∧ w.state = (k.look l).state ∧ w.words = (k.look l).words) →
      CInv c { k with a := a, f := k.f ++ [Miss.new l kd] } ∧ ∀ x, (lookWay c a x).state = (k.look x).state ∧ (lookWay c a x).words = (k.look x).words := by
    intro a ha hx hl
    obtain ⟨w, hw, hwl, hws, hww⟩ := hl
    have lk : ∀ x, (lookWay c a x).state = (k.look x).state ∧ (lookWay c a x).words = (k.look x).words := fun x => by
      by_cases hxl : x = l
      · subst hxl; unfold lookWay; rw [hw]; exact ⟨hws, hww⟩
      · have : lookWay c a x = k.look x := by unfold Cache.look lookWay; rw [hx x hxl, h.cfg]
        rw [this]; exact ⟨rfl, rfl⟩
    refine ⟨⟨h.cfg, ha, huf, h.ub, hlen, h.lb, fun x => ?_, fun x hx' => ?_, fun x v hv => ?_, h.okB, hokF⟩, lk⟩
    · show (missOf (k.f ++ [Miss.new l kd]) x).isSome = true ↔ ∃ v, findWay c a x = some v ∧ v.locked = true
      rw [missNew l kd x hm]
      by_cases hxl : x = l
      · subst hxl; rw [if_pos rfl, hw]; simp [hwl]
      · rw [if_neg hxl, hx x hxl]; exact h.lock x
    · show findWay c a x = none
      have hxl : x ≠ l := by rintro rfl; have hx'' : (wbOf k.b x).isSome = true := hx'; rw [hb] at hx''; cases hx''
      rw [hx x hxl]; exact h.nobuf x hx'
    · have hv' : findWay c a x = some v := hv
      by_cases hxl : x = l
      · subst hxl
        rw [hw] at hv'; injection hv' with hv'; subst hv'
        rw [hww]; exact h.look_ok x
      · rw [hx x hxl] at hv'; exact h.okW x v hv'
  split
  · rename_i hg4
    obtain ⟨w, hw⟩ : ∃ w, findWay c k.a l = some w := by
      have : (findWay c k.a l).isSome = true := by have := hg4; unfold Cache.find at this; rw [h.cfg] at this; exact this
      exact Option.isSome_iff_exists.1 this
    obtain ⟨u1, u2, u3, _⟩ := h.aw.upd (l := l) (f := fun w => { w with locked := true }) (fun _ => rfl) (fun _ q => q)
    have u3' := u3 w hw
    have hth : Way.there { w with locked := true } = true := by simp [Way.there]
    rw [if_pos hth] at u3'
    obtain ⟨f1, f2⟩ := fin (lockWay k.c k.a l true) (by rw [h.cfg]; exact u1) (by rw [h.cfg]; exact u2) ⟨_, by rw [h.cfg]; exact u3', rfl, by rw [h.look_some hw], by rw [h.look_some hw]⟩
    refine ⟨fun e => absurd rfl e, fun _ => ⟨f1, rfl, hg1'.1, hg1'.2, hm, hb, hcan, rfl, rfl, rfl, fun x => ?_⟩⟩
    have := f2 x
    show (lookWay k.c (lockWay k.c k.a l true) x).state = _ ∧ (lookWay k.c (lockWay k.c k.a l true) x).words = _
    rw [h.cfg] at this ⊢; exact this
  · rename_i hg4
    have hn : findWay c k.a l = none := by
      have : (findWay c k.a l).isSome ≠ true := by have := hg4; unfold Cache.find at this; rw [h.cfg] at this; exact this
      simpa using this
    split
    · exact ⟨fun _ => ⟨rfl, rfl⟩, fun e => by cases e⟩
    · rename_i w hw
      rw [h.cfg] at hw
      obtain ⟨u1, u2, u3⟩ := h.aw.lay hg1'.1 hn hw
      obtain ⟨f1, f2⟩ := fin (layWay k.c k.a l w) (by rw [h.cfg]; exact u1) (by rw [h.cfg]; exact u2) ⟨_, by rw [h.cfg]; exact u3, rfl, by rw [h.look_none hn]; rfl, by rw [h.look_none hn]; rfl⟩
      refine ⟨fun e => absurd rfl e, fun _ => ⟨f1, rfl, hg1'.1, hg1'.2, hm, hb, hcan, rfl, rfl, rfl, fun x => ?_⟩⟩
      have := f2 x
      show (lookWay k.c (layWay k.c k.a l w) x).state = _ ∧ (lookWay k.c (layWay k.c k.a l w) x).words = _
      rw [h.cfg] at this ⊢; exact this

omit h in
theorem wbNew (l x : Int) (ws : Words) (hb : wbOf k.b l = none) : wbOf (k.b ++ [⟨l, ws, true⟩]) x = if x = l then some ⟨l, ws, true⟩ else wbOf k.b x := by
  rw [wbOf_snoc]
  by_cases hx : x = l
  · subst hx; simp [hb]
  · have : ¬ l = x := fun e => hx e.symm
    simp [hx, this]

/-- what there is to be evicted -/
theorem CInv.evict (set way : Int) :
    ((k.evict set way).2.2.2 ≠ 0 → (k.evict set way).1 = k ∧ (k.evict set way).2.1 = Msg.none ∧ (k.evict set way).2.2.1 = false) ∧
    ((k.evict set way).2.2.2 = 0 → ∃ l, (0 ≤ l ∧ l < c.lines) ∧ CInv c (k.evict set way).1 ∧ (k.evict set way).1.core = k.core ∧ (k.evict set way).1.f = k.f ∧ missOf k.f l = none ∧ wbOf k.b l = none ∧
      (k.look l).state ≠ 0 ∧ wayAt c k.a set way = some (k.look l) ∧
      (∀ x, (k.evict set way).1.look x = if x = l then Way.none else k.look x) ∧
      (((k.look l).state < 2 ∧ (k.evict set way).2.1 = Msg.none ∧ (k.evict set way).2.2.1 = false ∧ (k.evict set way).1.b = k.b) ∨
       (2 ≤ (k.look l).state ∧ (k.evict set way).2.1 = { k.home 3 l with words := (k.look l).words } ∧ (k.evict set way).2.2.1 = true ∧ (k.evict set way).1.b = k.b ++ [⟨l, (k.look l).words, true⟩]))) := by
  have hc := h.cfg
  subst hc
  unfold Cache.evict
  split
  · exact ⟨fun _ => ⟨rfl, rfl, rfl⟩, fun e => by cases e⟩
  rename_i w hw
  split
  · exact ⟨fun _ => ⟨rfl, rfl, rfl⟩, fun e => by cases e⟩
  rename_i hs
  split
  · exact ⟨fun _ => ⟨rfl, rfl, rfl⟩, fun e => by cases e⟩
  rename_i hl
  have hl' : w.locked = false := by simpa using hl
  have hat : findWay k.c k.a w.line = some w := by
    have hw' := hw
    unfold wayAt at hw'
    split at hw'
    · exact h.aw.find.2 ⟨_, hw', by simp [Way.there, hs], rfl⟩
    · cases hw'
  obtain ⟨l, hll⟩ : ∃ l, l = w.line := ⟨_, rfl⟩
  rw [← hll] at hat ⊢
  have hlk := h.look_some hat
  have hm : missOf k.f l = none := by
    cases hm : missOf k.f l with
    | none => rfl
    | some m =>
      obtain ⟨v, hv, hvl⟩ := h.miss_there (l := l) (by rw [hm]; rfl)
      rw [hat] at hv; injection hv with hv; rw [hv, hvl] at hl'; cases hl'
  have hb : wbOf k.b l = none := by
    cases hb : wbOf k.b l with
    | none => rfl
    | some e => have := h.nobuf l (by rw [hb]; rfl); rw [hat] at this; cases this
  have hok := h.okW l w hat
  have fin : ∀ (b : List WB), Uniq WB.line b → (b.length : Int) ≤ k.c.writebacks → (∀ x, (wbOf b x).isSome = true → (wbOf k.b x).isSome = true ∨ x = l) → (∀ x e, wbOf b x = some e → valuesOk k.c e.words = true) →
      CInv k.c { k with a := setWay k.c k.a l 0 Words.zero, b := b } ∧ ∀ x, ({ k with a := setWay k.c k.a l 0 Words.zero, b := b } : Cache).look x = if x = l then Way.none else k.look x := by
    intro b hub hlb hbs hokB
    obtain ⟨g1, g2⟩ := h.setA (l := l) (st := 0) (ws := Words.zero) hat (by omega) (valuesOk_zero' k.c) h.uf hub h.lf hlb (fun _ => rfl) (fun x hx => (hbs x hx).imp id (fun e => ⟨e, rfl, hl'⟩)) hokB h.okF
    refine ⟨g1, fun x => ?_⟩
    show lookWay k.c (setWay k.c k.a l 0 Words.zero) x = _
    rw [g2 x]
    split
    · rw [if_pos ⟨rfl, hl'⟩]
    · rfl
  split
  · rename_i h2
    have hb' : (wbOf k.b l).isSome = false := by rw [hb]; rfl
    unfold wbPut
    rw [hb']
    simp only [Bool.false_eq_true, if_false]
    by_cases hfull : (k.b.length : Int) = k.c.writebacks
    · simp only [hfull, if_true, ne_eq]
      exact ⟨fun _ => ⟨rfl, rfl, rfl⟩, fun e => by simp at e⟩
    · simp only [hfull, if_false, ne_eq, not_true_eq_false, if_false]
      obtain ⟨g1, g2⟩ := fin (k.b ++ [⟨l, w.words, true⟩]) (h.ub.snoc (x := WB.mk l w.words true) hb) (by have := h.lb; simp; omega)
        (fun x hx => by rw [wbNew l x _ hb] at hx; split at hx; exact .inr (by assumption); exact .inl hx)
        (fun x e he => by
          rw [wbNew l x _ hb] at he
          split at he
          · injection he with he; subst he; exact hok
          · exact (h.okB x e he).1)
      refine ⟨fun e => by first | exact absurd rfl e | exact e.elim, fun _ => ⟨l, (h.rng_of hat).1, g1, by first | rfl | trivial, by first | rfl | trivial, hm, hb, by rw [hlk]; exact hs, by rw [hlk]; exact hw, g2, .inr ⟨by rw [hlk]; exact h2, by rw [hlk], by first | rfl | trivial, by rw [hlk]⟩⟩⟩
  · rename_i h2
    obtain ⟨g1, g2⟩ := fin k.b h.ub h.lb (fun x hx => .inl hx) (fun x e he => (h.okB x e he).1)
    refine ⟨fun e => by first | exact absurd rfl e | exact e.elim, fun _ => ⟨l, (h.rng_of hat).1, g1, by first | rfl | trivial, by first | rfl | trivial, hm, hb, by rw [hlk]; exact hs, by rw [hlk]; exact hw, g2, .inl ⟨by rw [hlk]; omega, by first | rfl | trivial, by first | rfl | trivial, by first | rfl | trivial⟩⟩⟩
end
end Mes
end
section
namespace Mes
section
variable {c : Cfg} {k : Cache} (h : CInv c k)
include h

theorem CInv.tell (m : Msg) (own state : Int) (give : Bool) (hs : 0 ≤ state ∧ state ≤ 4) :
    (2 ≤ (k.look m.line).state → ∃ k', k.tell m own state give = (k', ⟨7, m.line, k.core, m.who, 1, m.acks, own, (k.look m.line).words⟩, true, 0) ∧ CInv c k' ∧ k'.core = k.core ∧ k'.f = k.f ∧ k'.b = k.b ∧
      (∀ x, x ≠ m.line → k'.look x = k.look x) ∧ (k'.look m.line).state = state ∧ (state ≠ 0 → (k'.look m.line).words = (k.look m.line).words)) ∧
    ((k.look m.line).state < 2 → ∀ e, wbOf k.b m.line = some e → e.live = true → ∃ k', k.tell m own state give = (k', ⟨7, m.line, k.core, m.who, 1, m.acks, own, e.words⟩, true, 0) ∧ CInv c k' ∧ k'.core = k.core ∧ k'.f = k.f ∧
      (∀ x, k'.look x = k.look x) ∧ k'.b = if give then wbKill k.b m.line else k.b) ∧
    ((k.look m.line).state < 2 → (∀ e, wbOf k.b m.line = some e → e.live = false) → k.tell m own state give = (k, Msg.none, false, 7)) := by
  have hc := h.cfg
  subst hc
  refine ⟨fun h2 => ?_, fun h2 e he hl => ?_, fun h2 hn => ?_⟩
  · have hw := h.found (l := m.line) (by omega)
    obtain ⟨g1, g2⟩ := h.setA hw hs (h.look_ok m.line) h.uf h.ub h.lf h.lb (fun _ => rfl) (fun x hx => .inl hx) (fun x e he => (h.okB x e he).1) h.okF
    refine ⟨_, by unfold Cache.tell; simp only [h2, if_true, Cache.answer], g1, rfl, rfl, rfl, fun x hx => ?_, ?_, fun hz => ?_⟩
    · have := g2 x; rw [if_neg hx] at this; exact this
    · have := g2 m.line; rw [if_pos rfl] at this
      show (lookWay k.c _ m.line).state = state
      rw [this]; split
      · rename_i hz; exact hz.1.symm
      · rfl
    · have := g2 m.line; rw [if_pos rfl] at this
      show (lookWay k.c _ m.line).words = _
      rw [this, if_neg (fun hz' => hz hz'.1)]
      show (if state = 0 then _ else _) = _
      rw [if_neg hz]
  · have hb : (wbOf k.b m.line).isSome = true := by rw [he]; rfl
    have e1 : ∀ x, (wbOf (wbKill k.b m.line) x).isSome = (wbOf k.b x).isSome := fun x => by
      rw [wbOf_kill]; split <;> simp
    have g := h.setFB (f := k.f) (b := if give then wbKill k.b m.line else k.b) h.uf (by split; exact wbKill_uniq h.ub; exact h.ub) h.lf (by split; rw [wbKill_length]; exact h.lb; exact h.lb) (fun _ => rfl)
      (fun x hx => by split at hx; rw [e1 x] at hx; exact hx; exact hx)
      (fun x e' he' => by
        split at he'
        · rw [wbOf_kill] at he'
          split at he'
          · obtain ⟨e'', he'', heq⟩ := Option.map_eq_some_iff.1 he'
            rw [← heq]; exact (h.okB x e'' he'').1
          · exact (h.okB x e' he').1
        · exact (h.okB x e' he').1) h.okF
    refine ⟨_, ?_, g, rfl, rfl, fun x => rfl, rfl⟩
    unfold Cache.tell
    simp only [show ¬ 2 ≤ (k.look m.line).state by omega, if_false, wbShare, he, hl, if_true, Cache.answer, ne_eq, not_true_eq_false]
  · obtain ⟨n, hn1, hn2⟩ : ∃ n : Int, wbShare k.b m.line = (Words.zero, n) ∧ n ≠ 0 := by
      unfold wbShare
      cases he : wbOf k.b m.line with
      | none => exact ⟨5, rfl, by omega⟩
      | some e => exact ⟨7, by simp [hn e he], by omega⟩
    unfold Cache.tell
    simp only [show ¬ 2 ≤ (k.look m.line).state by omega, if_false, hn1, ne_eq, hn2, not_false_eq_true, if_true]

/-- a miss was told more; now it may be full -/
theorem CInv.filled {l : Int} {μ μ' : Miss} (hm : missOf k.f l = some μ) (hok : MOk c μ') (hl : μ'.line = μ.line) (ho : μ'.owes = false) {g : Miss → Miss} (hg : g μ = μ') (hgl : ∀ x, (g x).line = x.line) :
    ∃ k', ({ k with f := updMiss k.f l g } : Cache).filled l 0 = (k', Msg.none, false, 0) ∧ CInv c k' ∧ k'.core = k.core ∧ k'.b = k.b ∧ (∀ x, x ≠ l → k'.look x = k.look x ∧ missOf k'.f x = missOf k.f x) ∧
      (if μ'.needs = μ'.got then missOf k'.f l = some { μ' with owes := true } ∧ (k'.look l).state = μ'.own ∧ (k'.look l).words = (if μ'.granted then (k.look l).words else μ'.words)
       else missOf k'.f l = some μ' ∧ k'.look l = k.look l) := by
  have hc := h.cfg
  subst hc
  have m1 : ∀ x, missOf (updMiss k.f l g) x = if x = l then some μ' else missOf k.f x := fun x => by
    rw [missOf_upd hgl]
    split
    · rename_i e; subst e; rw [hm]; simp [hg]
    · rfl
  have okF1 : ∀ x m, missOf (updMiss k.f l g) x = some m → MOk k.c m := fun x m hx => by
    rw [m1 x] at hx
    split at hx
    · injection hx with hx; rw [← hx]; exact hok
    · exact h.okF x m hx
  have fs1 : ∀ x, (missOf (updMiss k.f l g) x).isSome = (missOf k.f x).isSome := fun x => by
    rw [m1 x]; split
    · rename_i e; subst e; rw [hm]; rfl
    · rfl
  have k1 := h.setFB (f := updMiss k.f l g) (b := k.b) (updMiss_uniq h.uf hgl) h.ub (by rw [updMiss_length]; exact h.lf) h.lb fs1 (fun x hx => hx) (fun x e he => (h.okB x e he).1) okF1
  unfold Cache.filled
  have m1l : missOf (updMiss k.f l g) l = some μ' := by rw [m1 l, if_pos rfl]
  simp only [ne_eq, not_true_eq_false, if_false, missOwe, m1l, ho, Bool.false_eq_true, false_or]
  by_cases hf : μ'.needs = μ'.got
  · have hfT : (μ'.needs = μ'.got) = True := eq_true hf
    simp only [hfT, not_true_eq_false, if_false, if_true]
    obtain ⟨w, hw, hwl⟩ := h.miss_there (l := l) (by rw [hm]; rfl)
    have hown : 0 ≤ μ'.own ∧ μ'.own ≤ 4 ∧ μ'.own ≠ 0 := by
      have := hok.own (by have := hok.got; omega); omega
    have m2 : ∀ x, missOf (updMiss (updMiss k.f l g) l fun m => { m with owes := true }) x = if x = l then some { μ' with owes := true } else missOf k.f x := fun x => by
      rw [missOf_upd (g := fun m => { m with owes := true }) (fun _ => rfl)]
      split
      · rename_i e; subst e; rw [m1l]; rfl
      · rename_i e; rw [m1 x, if_neg e]
    have hws : valuesOk k.c (if μ'.granted = true then (k.look l).words else μ'.words) = true := by
      split
      · exact h.look_ok l
      · exact hok.words
    obtain ⟨g1, g2⟩ := h.setA (l := l) (st := μ'.own) (ws := if μ'.granted = true then (k.look l).words else μ'.words) hw ⟨hown.1, hown.2.1⟩ hws
      (f := updMiss (updMiss k.f l g) l fun m => { m with owes := true }) (b := k.b) (updMiss_uniq (updMiss_uniq h.uf hgl) (fun _ => rfl)) h.ub (by rw [updMiss_length, updMiss_length]; exact h.lf) h.lb
      (fun x => by rw [m2 x]; split; rename_i e; subst e; rw [hm]; rfl; rfl) (fun x hx => .inl hx) (fun x e he => (h.okB x e he).1)
      (fun x m hx => by
        rw [m2 x] at hx
        split at hx
        · injection hx with hx; rw [← hx]
          exact ⟨hok.words, hok.kind, hok.needs, hok.got, hok.own, fun _ => hf, hok.lone⟩
        · exact h.okF x m hx)
    refine ⟨_, rfl, g1, rfl, rfl, fun x hx => ⟨?_, ?_⟩, ?_, ?_, ?_⟩
    · have := g2 x; rw [if_neg hx] at this; exact this
    · have := m2 x; rw [if_neg hx] at this; exact this
    · have := m2 l; rw [if_pos rfl] at this; exact this
    · have := g2 l; rw [if_pos rfl, if_neg (show ¬ (μ'.own = 0 ∧ w.locked = false) from fun hz => hown.2.2 hz.1)] at this
      show (lookWay k.c _ l).state = _
      exact (congrArg Way.state this)
    · have := g2 l; rw [if_pos rfl, if_neg (show ¬ (μ'.own = 0 ∧ w.locked = false) from fun hz => hown.2.2 hz.1), if_neg hown.2.2] at this
      show (lookWay k.c _ l).words = _
      exact (congrArg Way.words this)
  · have hfF : (μ'.needs = μ'.got) = False := eq_false hf
    simp only [hfF, not_false_eq_true, if_true, if_false]
    exact ⟨_, rfl, k1, rfl, rfl, fun x hx => ⟨rfl, by have := m1 x; rw [if_neg hx] at this; exact this⟩, m1l, rfl⟩
end
end Mes
end
section
/- What each call makes of a cache: what must be so of it stays so. -/
namespace Mes

def GotLe (n : Int) (k : Cache) : Prop := ∀ l m, missOf k.f l = some m → m.got ≤ n

theorem GotLe.mono {n m : Int} {k : Cache} (h : GotLe n k) (hn : n ≤ m) : GotLe m k := fun l x hx => Int.le_trans (h l x hx) hn

/-- it is in order, and its core is the same -/
structure Nx (c : Cfg) (n : Int) (k k' : Cache) : Prop where
  inv : CInv c k'
  core : k'.core = k.core
  got : GotLe n k'

theorem updMiss_comp {f : List Miss} {l : Int} {g1 g2 : Miss → Miss} (h1 : ∀ x, (g1 x).line = x.line) : updMiss (updMiss f l g1) l g2 = updMiss f l (fun x => g2 (g1 x)) := by
  cases hm : missAt f l with
  | none =>
    have e : updMiss f l g1 = f := by unfold updMiss; rw [hm]
    rw [e]; unfold updMiss; rw [hm]
  | some j =>
    have e : updMiss f l g1 = f.modify j g1 := by unfold updMiss; rw [hm]
    have hm2 : missAt (f.modify j g1) l = some j := by
      unfold missAt at hm ⊢
      rw [List.findIdx?_eq_some_iff_getElem] at hm ⊢
      obtain ⟨p1, p2, p3⟩ := hm
      refine ⟨by simpa using p1, ?_, fun i hi => ?_⟩
      · rw [List.getElem_modify]; simp only [if_true, h1]; exact p2
      · rw [List.getElem_modify, if_neg (by omega)]; exact p3 i hi
    rw [e]
    unfold updMiss
    rw [hm, hm2]
    apply List.ext_getElem?
    intro i
    simp only [List.getElem?_modify]
    split <;> simp <;> rfl

section
variable {c : Cfg} {k : Cache} (h : CInv c k)
include h

theorem CInv.same {n : Int} (hg : GotLe n k) : Nx c n k k := ⟨h, rfl, hg⟩

theorem CInv.askN {n : Int} (hn : 0 ≤ n) (hg : GotLe n k) (l kd : Int) : Nx c n k (k.ask l kd).1 := by
  obtain ⟨h1, h2⟩ := h.ask l kd
  by_cases he : (k.ask l kd).2.2 = 0
  · obtain ⟨a1, a2, a3, a4, a5, a6, a7, a8, a9, a10, a11⟩ := h2 he
    refine ⟨a1, a8, fun x m hx => ?_⟩
    rw [a10, missNew l kd x a5] at hx
    split at hx
    · injection hx with hx; subst hx; exact hn
    · exact hg x m hx
  · rw [(h1 he).1]; exact h.same hg

theorem CInv.evictN {n : Int} (hg : GotLe n k) (s w : Int) : Nx c n k (k.evict s w).1 := by
  obtain ⟨h1, h2⟩ := h.evict s w
  by_cases he : (k.evict s w).2.2.2 = 0
  · obtain ⟨l, _, a2, a3, a4, _⟩ := h2 he
    refine ⟨a2, a3, fun x m hx => ?_⟩
    rw [a4] at hx; exact hg x m hx
  · rw [(h1 he).1]; exact h.same hg

theorem CInv.tellN {n : Int} (hg : GotLe n k) (m : Msg) (own state : Int) (give : Bool) (hs : 0 ≤ state ∧ state ≤ 4) : Nx c n k (k.tell m own state give).1 := by
  obtain ⟨t1, t2, t3⟩ := h.tell m own state give hs
  by_cases h2 : 2 ≤ (k.look m.line).state
  · obtain ⟨k', e, a1, a2, a3, _⟩ := t1 h2
    rw [e]; exact ⟨a1, a2, fun x m hx => by rw [a3] at hx; exact hg x m hx⟩
  · cases hb : wbOf k.b m.line with
    | none => rw [t3 (by omega) (fun e he => by rw [hb] at he; cases he)]; exact h.same hg
    | some e =>
      cases hl : e.live with
      | true =>
        obtain ⟨k', e, a1, a2, a3, _⟩ := t2 (by omega) e hb hl
        rw [e]; exact ⟨a1, a2, fun x m hx => by rw [a3] at hx; exact hg x m hx⟩
      | false => rw [t3 (by omega) (fun e' he => by rw [hb] at he; injection he with he; subst he; exact hl)]; exact h.same hg

/-- behind Inv -/
theorem CInv.invE (m : Msg) :
    (2 ≤ (k.look m.line).state → k.inv m = (k, Msg.none, false, 7)) ∧
    ((k.look m.line).state < 2 → ∃ k', k.inv m = (k', k.answer m 9, true, 0) ∧ CInv c k' ∧ k'.core = k.core ∧ k'.f = k.f ∧ k'.b = k.b ∧ (∀ x, x ≠ m.line → k'.look x = k.look x) ∧ (k'.look m.line).state = 0) := by
  have hc := h.cfg
  subst hc
  refine ⟨fun h2 => by unfold Cache.inv; simp only [h2, if_true], fun h2 => ?_⟩
  unfold Cache.inv
  simp only [show ¬ 2 ≤ (k.look m.line).state by omega, if_false]
  by_cases h1 : (k.look m.line).state = 1
  · simp only [h1, if_true]
    have hw := h.found (l := m.line) (by omega)
    obtain ⟨g1, g2⟩ := h.setA (st := 0) (ws := Words.zero) hw (by omega) (valuesOk_zero' _) h.uf h.ub h.lf h.lb (fun _ => rfl) (fun x hx => .inl hx) (fun x e he => (h.okB x e he).1) h.okF
    refine ⟨_, rfl, g1, rfl, rfl, rfl, fun x hx => ?_, ?_⟩
    · have := g2 x; rw [if_neg hx] at this; exact this
    · have := g2 m.line; rw [if_pos rfl] at this
      show (lookWay k.c _ m.line).state = 0
      rw [this]; split <;> rfl
  · simp only [h1, if_false]
    have := h.st_rng m.line
    exact ⟨k, rfl, h, rfl, rfl, rfl, fun _ _ => rfl, by omega⟩

theorem CInv.invN {n : Int} (hg : GotLe n k) (m : Msg) : Nx c n k (k.inv m).1 := by
  obtain ⟨t1, t2⟩ := h.invE m
  by_cases h2 : 2 ≤ (k.look m.line).state
  · rw [t1 h2]; exact h.same hg
  · obtain ⟨k', e, a1, a2, a3, _⟩ := t2 (by omega)
    rw [e]; exact ⟨a1, a2, fun x m hx => by rw [a3] at hx; exact hg x m hx⟩

/-- a miss is told something: all that comes of it -/
theorem CInv.fillN {n : Int} (hg : GotLe n k) {l : Int} {μ μ' : Miss} (hm : missOf k.f l = some μ) (hok : MOk c μ') (hl : μ'.line = μ.line) (ho : μ'.owes = false) (hgot : μ'.got ≤ n) {g : Miss → Miss} (hgm : g μ = μ') (hgl : ∀ x, (g x).line = x.line) :
    Nx c n k (({ k with f := updMiss k.f l g } : Cache).filled l 0).1 ∧ (({ k with f := updMiss k.f l g } : Cache).filled l 0).2 = (Msg.none, false, 0) := by
  obtain ⟨k', e, a1, a2, a3, a4, a5⟩ := h.filled hm hok hl ho hgm hgl
  rw [e]
  refine ⟨⟨a1, a2, fun x m hx => ?_⟩, rfl⟩
  by_cases hxl : x = l
  · subst hxl
    split at a5
    · rw [a5.1] at hx; injection hx with hx; subst hx; exact hgot
    · rw [a5.1] at hx; injection hx with hx; subst hx; exact hgot
  · rw [(a4 x hxl).2] at hx; exact hg x m hx

omit h in
theorem Miss.fits_iff {m : Miss} {acks own : Int} : m.fits acks own = true ↔ m.needs = -1 ∧ m.got ≤ acks ∧ ((m.kind = 2 ∧ own = 4) ∨ (m.kind ≠ 2 ∧ acks = 0 ∧ (own = 1 ∨ own = 2))) := by
  unfold Miss.fits
  split
  · rename_i hh; constructor
    · intro e; cases e
    · rintro ⟨e1, e2, _⟩; rcases hh with hh | hh
      · exact absurd e1 hh
      · omega
  · rename_i hh
    have hn : m.needs = -1 := by
      by_cases e : m.needs = -1
      · exact e
      · exact absurd (.inl e) hh
    have hgt : m.got ≤ acks := by
      by_cases e : acks < m.got
      · exact absurd (.inr e) hh
      · omega
    split
    · rename_i hk; simp only [beq_iff_eq, hn, hgt, hk, true_and, ne_eq, not_true_eq_false, false_and, or_false]
    · rename_i hk; simp only [Bool.and_eq_true, Bool.or_eq_true, beq_iff_eq, hn, hgt, hk, true_and, false_and, false_or, ne_eq, not_false_eq_true]

omit h in
theorem MOk.data {m : Miss} (hm : MOk c m) {acks own : Int} (hf : m.fits acks own = true) {ws : Words} (hw : valuesOk c ws = true) (ha : 0 ≤ acks) (gr : Bool) : MOk c { m with needs := acks, own := own, words := ws, granted := gr } ∧ m.owes = false := by
  obtain ⟨f1, f2, f3⟩ := Miss.fits_iff.1 hf
  have ho : m.owes = false := by
    cases ho : m.owes with
    | false => rfl
    | true => have := hm.owes ho; have := hm.got; omega
  refine ⟨⟨hw, hm.kind, by simp only; omega, hm.got, fun _ => ?_, fun e => ?_, fun _ => f2⟩, ho⟩
  · simp only; rcases f3 with ⟨_, e⟩ | ⟨_, _, e | e⟩ <;> omega
  · simp only at e; rw [ho] at e; cases e

/-- words that came -/
theorem CInv.dataN {n : Int} (hg : GotLe n k) {l acks own : Int} {ws : Words} (hw : valuesOk c ws = true) (ha : 0 ≤ acks) :
    Nx c n k (({ k with f := (missData k.f l acks own ws).1 } : Cache).filled l (missData k.f l acks own ws).2).1 := by
  unfold missData
  cases hm : missOf k.f l with
  | none => unfold Cache.filled; simp only [ne_eq, show ¬ (5 : Int) = 0 by omega, not_false_eq_true, if_true]; exact h.same hg
  | some μ =>
    simp only
    by_cases hf : μ.fits acks own = true
    · rw [if_pos hf]
      obtain ⟨ok, ho⟩ := (h.okF l μ hm).data hf hw ha μ.granted
      exact (h.fillN hg hm ok rfl ho (hg l μ hm) (g := fun m => { m with needs := acks, own := own, words := ws }) rfl (fun _ => rfl)).1
    · rw [if_neg hf]; unfold Cache.filled; simp only [ne_eq, show ¬ (7 : Int) = 0 by omega, not_false_eq_true, if_true]; exact h.same hg

theorem CInv.grantN {n : Int} (hg : GotLe n k) {l acks : Int} (ha : 0 ≤ acks) :
    Nx c n k (({ k with f := (missGrant k.f l acks).1 } : Cache).filled l (missGrant k.f l acks).2).1 := by
  unfold missGrant missData
  cases hm : missOf k.f l with
  | none => unfold Cache.filled; simp only [ne_eq, show ¬ (5 : Int) = 0 by omega, not_false_eq_true, if_true, if_false]; exact h.same hg
  | some μ =>
    simp only
    by_cases hf : μ.fits acks 4 = true
    · rw [if_pos hf]
      obtain ⟨ok, ho⟩ := (h.okF l μ hm).data hf (valuesOk_zero' c) ha true
      simp only [if_true]
      rw [updMiss_comp (g1 := fun m => { m with needs := acks, own := 4, words := Words.zero }) (fun _ => rfl)]
      exact (h.fillN hg hm ok rfl ho (hg l μ hm) (g := fun m => { { m with needs := acks, own := 4, words := Words.zero } with granted := true }) rfl (fun _ => rfl)).1
    · rw [if_neg hf]; unfold Cache.filled; simp only [ne_eq, show ¬ (7 : Int) = 0 by omega, not_false_eq_true, if_true, if_false]; exact h.same hg

omit h in
theorem MOk.ack {m : Miss} (hm : MOk c m) (hn : m.needs ≠ m.got) : MOk c { m with got := m.got + 1 } ∧ m.owes = false := by
  have ho : m.owes = false := by
    cases ho : m.owes with
    | false => rfl
    | true => exact absurd (hm.owes ho) hn
  have := hm.got
  refine ⟨⟨hm.words, hm.kind, hm.needs, by simp only; omega, hm.own, fun e => ?_, fun e => ?_⟩, ho⟩
  · simp only at e; rw [ho] at e; cases e
  · have := hm.lone e; simp only at *; omega

theorem CInv.ackN {n : Int} (hg : GotLe n k) {l : Int} :
    Nx c (n + 1) k (({ k with f := (missAck k.f l).1 } : Cache).filled l (missAck k.f l).2).1 := by
  have hg' := hg.mono (show n ≤ n + 1 by omega)
  unfold missAck
  cases hm : missOf k.f l with
  | none => unfold Cache.filled; simp only [ne_eq, show ¬ (5 : Int) = 0 by omega, not_false_eq_true, if_true]; exact h.same hg'
  | some μ =>
    simp only
    by_cases hf : μ.kind = 1 ∨ μ.needs = μ.got
    · rw [if_pos hf]; unfold Cache.filled; simp only [ne_eq, show ¬ (7 : Int) = 0 by omega, not_false_eq_true, if_true]; exact h.same hg'
    · rw [if_neg hf]
      obtain ⟨ok, ho⟩ := (h.okF l μ hm).ack (fun e => hf (.inr e))
      exact (h.fillN hg' hm ok rfl ho (by have := hg l μ hm; simp only; omega) (g := fun m => { m with got := m.got + 1 }) rfl (fun _ => rfl)).1

theorem CInv.dropE (l : Int) : CInv c { k with b := (wbDrop k.b l).1 } ∧ (∀ x, x ≠ l → wbOf (wbDrop k.b l).1 x = wbOf k.b x) := by
  unfold wbDrop
  cases hb : wbAt k.b l with
  | none => exact ⟨h, fun _ _ => rfl⟩
  | some i =>
    have hne : ∀ x, x ≠ l → wbOf (k.b.eraseIdx i) x = wbOf k.b x := fun x hx => find_erase_other (fun e : WB => e.line == l) (fun e he => by
      simp only [beq_iff_eq] at he; simp only [he, beq_eq_false_iff_ne]; exact fun q => hx q.symm) hb
    have hl : wbOf (k.b.eraseIdx i) l = none := h.ub.find_erase hb
    have hlen : (k.b.eraseIdx i).length ≤ k.b.length := by rw [List.length_eraseIdx]; split <;> omega
    refine ⟨h.setFB (f := k.f) (b := k.b.eraseIdx i) h.uf (h.ub.erase i) h.lf (by have := h.lb; omega) (fun _ => rfl) (fun x hx => ?_) (fun x e he => ?_) h.okF, hne⟩
    · by_cases hxl : x = l
      · subst hxl; rw [hl] at hx; cases hx
      · rw [hne x hxl] at hx; exact hx
    · by_cases hxl : x = l
      · subst hxl; rw [hl] at he; cases he
      · rw [hne x hxl] at he; exact (h.okB x e he).1

end
end Mes
end
section
/- Finish, Do, Take; any step. -/
namespace Mes

theorem find_uniq {α : Type} {k : α → Int} {l : List α} (h : Uniq k l) {x : α} (hx : x ∈ l) : l.find? (fun y => k y == k x) = some x := by
  induction l with
  | nil => cases hx
  | cons y l ih =>
    unfold Uniq at h
    rw [List.map_cons, List.nodup_cons] at h
    rw [List.find?_cons]
    rcases List.mem_cons.1 hx with rfl | hx'
    · simp
    · have : ¬ k y = k x := fun e => h.1 (by rw [e]; exact List.mem_map_of_mem hx')
      rw [show (k y == k x) = false by simpa using this]
      exact ih h.2 hx'

theorem valuesOk_set {c : Cfg} {w : Words} (h : valuesOk c w = true) {i : Nat} (hi : (i : Int) < c.words) {v : Int} (hv : -2147483648 ≤ v ∧ v ≤ 2147483647) : valuesOk c (w.set i v) = true := by
  rw [valuesOk_iff] at h ⊢
  intro j hj
  have hg : (w.set i v).get j = if i = j then v else w.get j := by
    unfold Words.get Words.set
    simp only [List.getD_eq_getElem?_getD, List.getElem?_set]
    split
    · rename_i e; subst e; rw [if_pos (by rw [w.len]; exact hj)]; rfl
    · rfl
  rw [hg]
  split
  · rename_i e; subst e; exact ⟨hv, .inl hi⟩
  · exact h j hj

theorem ok_words {c : Cfg} (hc : c.ok = true) : 1 ≤ c.words ∧ c.words ≤ 8 := by
  simp only [Cfg.ok, Bool.and_eq_true, isPow, decide_eq_true_eq, List.contains_eq_mem, pows, List.mem_cons, List.not_mem_nil, or_false] at hc
  omega

theorem wordOf_lt {c : Cfg} (hc : c.ok = true) (addr : Int) : ((c.wordOf addr : Nat) : Int) < c.words := by
  have hw := ok_words hc
  have h1 : 0 ≤ addr % c.words := Int.emod_nonneg _ (by omega)
  have h2 : addr % c.words < c.words := Int.emod_lt_of_pos _ (by omega)
  unfold Cfg.wordOf; omega

section
variable {c : Cfg} {k : Cache} (h : CInv c k)
include h

/-- the miss that owes -/
theorem CInv.owing {l : Int} (ho : missOwing k.f = some l) : ∃ m, missOf k.f l = some m ∧ m.owes = true ∧ m.line = l ∧ (0 ≤ l ∧ l < c.lines) := by
  unfold missOwing at ho
  obtain ⟨m, hm, rfl⟩ := Option.map_eq_some_iff.1 ho
  have hmem := List.mem_of_find?_eq_some hm
  have hf : missOf k.f m.line = some m := find_uniq h.uf hmem
  refine ⟨m, hf, by have := List.find?_some hm; simpa using this, rfl, ?_⟩
  obtain ⟨w, hw, _⟩ := h.miss_there (l := m.line) (by rw [hf]; rfl)
  exact (h.rng_of hw).1

theorem CInv.finE : (missOwing k.f = none → k.finish = (k, none)) ∧
    (∀ l, missOwing k.f = some l → ∃ k', k.finish = (k', some (k.home 11 l)) ∧ CInv c k' ∧ k'.core = k.core ∧ k'.b = k.b ∧ (0 ≤ l ∧ l < c.lines) ∧ (∃ m, missOf k.f l = some m ∧ m.owes = true) ∧ missOf k'.f l = none ∧ (∀ x, x ≠ l → missOf k'.f x = missOf k.f x ∧ k'.look x = k.look x) ∧
      (k'.look l).state = (k.look l).state ∧ k'.f.length + 1 = k.f.length ∧ k'.a = lockWay c k.a l false) := by
  have hc := h.cfg
  subst hc
  refine ⟨fun hn => by unfold Cache.finish; rw [hn], fun l ho => ?_⟩
  obtain ⟨m, hm, hmo, _, hl⟩ := h.owing ho
  obtain ⟨w, hw, hwl⟩ := h.miss_there (l := l) (by rw [hm]; rfl)
  unfold Cache.finish
  rw [ho]
  simp only
  obtain ⟨i, hi⟩ : ∃ i, missAt k.f l = some i := by
    have := missAt_isSome (f := k.f) (line := l)
    rw [hm] at this
    exact Option.isSome_iff_exists.1 this
  have hcl : missClose k.f l = k.f.eraseIdx i := by unfold missClose; rw [hm]; simp only [hmo, if_true, hi]
  have hne : ∀ x, x ≠ l → missOf (k.f.eraseIdx i) x = missOf k.f x := fun x hx => find_erase_other (fun e : Miss => e.line == l) (fun e he => by
    simp only [beq_iff_eq] at he; simp only [he, beq_eq_false_iff_ne]; exact fun q => hx q.symm) hi
  have hno : missOf (k.f.eraseIdx i) l = none := h.uf.find_erase hi
  have hil : i < k.f.length := (List.findIdx?_eq_some_iff_getElem.1 hi).1
  have hlen : (k.f.eraseIdx i).length + 1 = k.f.length := by rw [List.length_eraseIdx_of_lt hil]; omega
  obtain ⟨u1, u2, u3, _⟩ := h.aw.upd (l := l) (f := fun w => { w with locked := false }) (fun _ => rfl) (fun _ hs => hs)
  have u3' := u3 w hw
  have hlk : lockWay k.c k.a l false = updWay k.c k.a l fun w => { w with locked := false } := rfl
  rw [hcl]
  refine ⟨_, rfl, ?_, rfl, rfl, hl, ⟨m, hm, hmo⟩, hno, fun x hx => ⟨hne x hx, ?_⟩, ?_, hlen, rfl⟩
  · refine ⟨rfl, u1, h.uf.erase i, h.ub, by have := h.lf; show ((k.f.eraseIdx i).length : Int) ≤ _; omega, h.lb, fun x => ?_, fun x hx => ?_, fun x v hv => ?_, h.okB, fun x m hx => ?_⟩
    · show (missOf (k.f.eraseIdx i) x).isSome = true ↔ ∃ v, findWay k.c (lockWay k.c k.a l false) x = some v ∧ v.locked = true
      rw [hlk]
      by_cases hxl : x = l
      · subst hxl
        rw [hno, u3']
        constructor
        · intro e; cases e
        · rintro ⟨v, hv, hvl⟩
          split at hv
          · injection hv with hv; subst hv; cases hvl
          · cases hv
      · rw [hne x hxl, u2 x hxl]; exact h.lock x
    · show findWay k.c (lockWay k.c k.a l false) x = none
      by_cases hxl : x = l
      · subst hxl
        have := h.nobuf x hx
        rw [hw] at this; cases this
      · rw [hlk, u2 x hxl]; exact h.nobuf x hx
    · have hv' : findWay k.c (lockWay k.c k.a l false) x = some v := hv
      by_cases hxl : x = l
      · subst hxl
        rw [hlk, u3'] at hv'
        split at hv'
        · injection hv' with hv'; subst hv'; exact h.okW x w hw
        · cases hv'
      · rw [hlk, u2 x hxl] at hv'; exact h.okW x v hv'
    · have hx' : missOf (k.f.eraseIdx i) x = some m := hx
      by_cases hxl : x = l
      · subst hxl; rw [hno] at hx'; cases hx'
      · rw [hne x hxl] at hx'; exact h.okF x m hx'
  · show lookWay k.c (lockWay k.c k.a l false) x = lookWay k.c k.a x
    unfold lookWay; rw [hlk, u2 x hx]
  · show (lookWay k.c (lockWay k.c k.a l false) l).state = (lookWay k.c k.a l).state
    unfold lookWay
    rw [hlk, u3', hw]
    split
    · rfl
    · rename_i hth
      simp only [Way.there, Bool.or_false] at hth
      have : w.state = 0 := by
        by_cases e : w.state = 0
        · exact e
        · exact absurd (by simpa using e) hth
      rw [show (Option.getD (some w) Way.none).state = w.state from rfl, this]; rfl

theorem CInv.finN {n : Int} (hg : GotLe n k) : Nx c n k k.finish.1 := by
  obtain ⟨h1, h2⟩ := h.finE
  cases ho : missOwing k.f with
  | none => rw [h1 ho]; exact h.same hg
  | some l =>
    obtain ⟨k', e, a1, a2, _, _, _, a6, a7, _⟩ := h2 l ho
    rw [e]
    refine ⟨a1, a2, fun x m hx => ?_⟩
    by_cases hxl : x = l
    · subst hxl; rw [a6] at hx; cases hx
    · rw [(a7 x hxl).1] at hx; exact hg x m hx

/-- what Do does -/
theorem CInv.doE (hc : c.ok = true) (x : Op) :
    ((k.do x).2.2 ≠ 0 → (k.do x).1 = k ∧ (k.do x).2.1 = 0) ∧
    ((k.do x).2.2 = 0 → inR x.addr c.size = true ∧ x.may = true ∧ x.kind ≠ 4 ∧ canDo (k.look (c.lineOf x.addr)).state (opKind x) = true ∧
      (k.do x).2.1 = (touch ((k.look (c.lineOf x.addr)).words.get (c.wordOf x.addr)) x).2 ∧ CInv c (k.do x).1 ∧ (k.do x).1.core = k.core ∧ (k.do x).1.f = k.f ∧ (k.do x).1.b = k.b ∧
      (∀ y, y ≠ c.lineOf x.addr → (k.do x).1.look y = k.look y) ∧
      (x.kind = 1 → (k.do x).1 = k) ∧
      (x.kind ≠ 1 → ((k.do x).1.look (c.lineOf x.addr)) = ⟨4, (k.look (c.lineOf x.addr)).line, (k.look (c.lineOf x.addr)).words.set (c.wordOf x.addr) x.value, (k.look (c.lineOf x.addr)).locked⟩)) := by
  have hcc := h.cfg
  subst hcc
  unfold Cache.do
  by_cases hin : inR x.addr k.c.size = true
  · simp only [hin, if_true]
    generalize hL : k.c.lineOf x.addr = L
    unfold applyOp
    split
    · refine ⟨fun _ => by simp, fun e => by simp at e⟩
    · rename_i hcond
      simp only [Bool.or_eq_true, Bool.not_eq_true', beq_iff_eq, not_or, hc, hin, Bool.true_eq_false, not_false_eq_true, true_and] at hcond
      simp only [Bool.not_eq_false] at hcond
      have hmay : x.may = true := by simpa using hcond.1
      simp only [ne_eq, not_true_eq_false, if_false]
      by_cases hcan : k.can L (opKind x) = true
      · have hcan' : canDo (k.look L).state (opKind x) = true := hcan
        simp only [hcan, Bool.not_true, Bool.false_eq_true, if_false]
        by_cases hk : opKind x = 2
        · have hk1 : x.kind ≠ 1 := by unfold opKind at hk; split at hk <;> omega
          simp only [hk, if_true]
          refine ⟨fun e => absurd trivial e, fun _ => ?_⟩
          have hst : (k.look L).state ≠ 0 := by
            rw [hk] at hcan'
            simp only [canDo, show ¬ (2 : Int) = 1 by omega, if_false, Bool.or_eq_true, beq_iff_eq] at hcan'
            omega
          have hw := h.found hst
          have hval : -2147483648 ≤ x.value ∧ x.value ≤ 2147483647 ∧ (touch ((k.look L).words.get (k.c.wordOf x.addr)) x).1 = x.value := by
            unfold Op.may at hmay
            rw [if_neg hcond.2, if_neg hk1] at hmay
            split at hmay
            · rename_i h23
              simp only [Bool.and_eq_true, inC_iff] at hmay
              refine ⟨hmay.2.1, hmay.2.2, ?_⟩
              unfold touch
              rcases h23 with e | e
              · rw [if_pos e]
              · rw [if_neg (by omega), if_pos e]
            · cases hmay
          rw [hval.2.2]
          have hok := valuesOk_set (h.look_ok L) (wordOf_lt hc x.addr) (v := x.value) ⟨hval.1, hval.2.1⟩
          obtain ⟨g1, g2⟩ := h.setA (st := 4) hw (by omega) hok h.uf h.ub h.lf h.lb (fun _ => rfl) (fun x hx => .inl hx) (fun x e he => (h.okB x e he).1) h.okF
          refine ⟨trivial, hmay, hcond.2, by rw [← hk]; exact hcan', (by first | rfl | trivial), g1, (by first | rfl | trivial), (by first | rfl | trivial), (by first | rfl | trivial), fun y hy => ?_, fun e => absurd e hk1, fun _ => ?_⟩
          · have := g2 y; rw [if_neg hy] at this; exact this
          · have := g2 L; rw [if_pos rfl, if_neg (by omega), if_neg (by omega)] at this
            exact this
        · have hk1 : x.kind = 1 := by
            by_cases e : x.kind = 1
            · exact e
            · exact absurd (by unfold opKind; rw [if_neg e]) hk
          simp only [hk, if_false]
          exact ⟨fun e => absurd trivial e, fun _ => ⟨trivial, hmay, hcond.2, hcan', (by first | rfl | trivial), h, (by first | rfl | trivial), (by first | rfl | trivial), (by first | rfl | trivial), fun _ _ => (by first | rfl | trivial), fun _ => (by first | rfl | trivial), fun e => absurd hk1 e⟩⟩
      · have hcanf : k.can L (opKind x) = false := by simpa using hcan
        simp only [hcanf, Bool.not_false, if_true]
        exact ⟨fun _ => ⟨(by first | rfl | trivial), (by first | rfl | trivial)⟩, fun e => by simp at e⟩
  · have hin' : inR x.addr k.c.size = false := by simpa using hin
    unfold applyOp
    simp only [hin', Bool.not_false, Bool.or_true, Bool.true_or, if_true]
    exact ⟨fun _ => by simp, fun e => by simp at e⟩

theorem CInv.doN (hc : c.ok = true) {n : Int} (hg : GotLe n k) (x : Op) : Nx c n k (k.do x).1 := by
  obtain ⟨h1, h2⟩ := h.doE hc x
  by_cases he : (k.do x).2.2 = 0
  · obtain ⟨_, _, _, _, _, a1, a2, a3, _⟩ := h2 he
    exact ⟨a1, a2, fun y m hy => by rw [a3] at hy; exact hg y m hy⟩
  · rw [(h1 he).1]; exact h.same hg

end
end Mes
end
section
/- Take; any step; what an operation at a line's first word tells. -/
namespace Mes

theorem may_facts {c : Cfg} {m : Msg} (h : m.may c = true) : inR m.line c.lines = true ∧ (m.kind = 7 → valuesOk c m.words = true ∧ 0 ≤ m.acks) ∧ (m.kind = 8 → 0 ≤ m.acks) := by
  simp only [Msg.may, Bool.and_eq_true] at h
  obtain ⟨⟨⟨_, _⟩, hl⟩, hf⟩ := h
  refine ⟨hl, fun hk => ?_, fun hk => ?_⟩
  · unfold Msg.form at hf
    simp only [hk, show ¬ (7 : Int) = 3 by omega, show ¬ ((7 : Int) = 1 ∨ (7 : Int) = 2 ∨ (7 : Int) = 11) by omega, show ¬ ((7 : Int) = 4 ∨ (7 : Int) = 6) by omega, show ¬ (7 : Int) = 5 by omega, if_false, if_true, Bool.and_eq_true, inR_iff] at hf
    exact ⟨hf.2, hf.1.1.1.2.1⟩
  · unfold Msg.form at hf
    simp only [hk, show ¬ (8 : Int) = 3 by omega, show ¬ ((8 : Int) = 1 ∨ (8 : Int) = 2 ∨ (8 : Int) = 11) by omega, show ¬ ((8 : Int) = 4 ∨ (8 : Int) = 6) by omega, show ¬ (8 : Int) = 5 by omega, show ¬ (8 : Int) = 7 by omega, if_false, if_true, Bool.and_eq_true, plainMsg, inR_iff] at hf
    exact hf.1.2.2.1

theorem missData_err {f : List Miss} {l a o : Int} {w : Words} (h : (missData f l a o w).2 ≠ 0) : (missData f l a o w).1 = f := by
  unfold missData at h ⊢
  cases hm : missOf f l with
  | none => rfl
  | some m =>
    rw [hm] at h
    simp only at h ⊢
    by_cases hf : m.fits a o = true
    · rw [if_pos hf] at h; exact absurd rfl h
    · rw [if_neg hf]
theorem missGrant_err {f : List Miss} {l a : Int} (h : (missGrant f l a).2 ≠ 0) : (missGrant f l a).1 = f := by
  unfold missGrant at h ⊢
  rcases hq : missData f l a 4 Words.zero with ⟨f', e⟩
  rw [hq] at h
  simp only at h ⊢
  by_cases he : e = 0
  · rw [if_pos he] at h; exact absurd rfl h
  · rw [if_neg he]
    have := missData_err (f := f) (l := l) (a := a) (o := 4) (w := Words.zero) (by rw [hq]; exact he)
    rw [hq] at this; exact this
theorem missAck_err {f : List Miss} {l : Int} (h : (missAck f l).2 ≠ 0) : (missAck f l).1 = f := by
  unfold missAck at h ⊢
  cases hm : missOf f l with
  | none => rfl
  | some m =>
    rw [hm] at h
    simp only at h ⊢
    by_cases hf : m.kind = 1 ∨ m.needs = m.got
    · rw [if_pos hf]
    · rw [if_neg hf] at h; exact absurd rfl h

theorem filled_err {k : Cache} {l e : Int} (h : (k.filled l e).2.2.2 ≠ 0) : e ≠ 0 ∧ k.filled l e = (k, Msg.none, false, 7) := by
  unfold Cache.filled at h ⊢
  by_cases he : e = 0
  · subst he
    simp only [ne_eq, not_true_eq_false, if_false] at h
    exfalso
    split at h <;> exact h rfl
  · exact ⟨he, by rw [if_pos he]⟩

theorem tell_err {k : Cache} {m : Msg} {own state : Int} {give : Bool} (h : (k.tell m own state give).2.2.2 ≠ 0) : k.tell m own state give = (k, Msg.none, false, 7) := by
  unfold Cache.tell at h ⊢
  simp only at h ⊢
  split
  · rename_i h2; rw [if_pos h2] at h; exact absurd rfl h
  · rename_i h2
    rw [if_neg h2] at h
    rcases hq : wbShare k.b m.line with ⟨w, e⟩
    rw [hq] at h
    simp only at h ⊢
    by_cases he : e = 0
    · subst he; simp at h
    · rw [if_pos he]

theorem take_err {k : Cache} {m : Msg} (h : (k.take m).2.2.2 ≠ 0) : (k.take m).1 = k ∧ (k.take m).2.1 = Msg.none ∧ (k.take m).2.2.1 = false := by
  unfold Cache.take at h ⊢
  split
  · exact ⟨rfl, rfl, rfl⟩
  rename_i h0
  rw [if_neg h0] at h
  split
  · rename_i h1; rw [if_pos h1] at h; rw [tell_err h]; exact ⟨rfl, rfl, rfl⟩
  rename_i h1; rw [if_neg h1] at h
  split
  · rename_i h2; rw [if_pos h2] at h; rw [tell_err h]; exact ⟨rfl, rfl, rfl⟩
  rename_i h2; rw [if_neg h2] at h
  split
  · rename_i h3; rw [if_pos h3] at h
    unfold Cache.inv at h ⊢
    simp only at h ⊢
    split
    · exact ⟨rfl, rfl, rfl⟩
    · rename_i h4; rw [if_neg h4] at h; exact absurd rfl h
  rename_i h3; rw [if_neg h3] at h
  split
  · rename_i h4; rw [if_pos h4] at h
    rcases hq : missData k.f m.line m.acks m.own m.words with ⟨f, e⟩
    rw [hq] at h
    obtain ⟨he, e2⟩ := filled_err h
    have := missData_err (f := k.f) (l := m.line) (a := m.acks) (o := m.own) (w := m.words) (by rw [hq]; exact he)
    rw [hq] at this
    simp only at this ⊢
    rw [e2, this]; exact ⟨rfl, rfl, rfl⟩
  rename_i h4; rw [if_neg h4] at h
  split
  · rename_i h5; rw [if_pos h5] at h
    split
    · exact ⟨rfl, rfl, rfl⟩
    · rename_i h6; rw [if_neg h6] at h
      rcases hq : missGrant k.f m.line m.acks with ⟨f, e⟩
      rw [hq] at h
      obtain ⟨he, e2⟩ := filled_err h
      have := missGrant_err (f := k.f) (l := m.line) (a := m.acks) (by rw [hq]; exact he)
      rw [hq] at this
      simp only at this ⊢
      rw [e2, this]; exact ⟨rfl, rfl, rfl⟩
  rename_i h5; rw [if_neg h5] at h
  split
  · rename_i h6; rw [if_pos h6] at h
    rcases hq : missAck k.f m.line with ⟨f, e⟩
    rw [hq] at h
    obtain ⟨he, e2⟩ := filled_err h
    have := missAck_err (f := k.f) (l := m.line) (by rw [hq]; exact he)
    rw [hq] at this
    simp only at this ⊢
    rw [e2, this]; exact ⟨rfl, rfl, rfl⟩
  rename_i h6; rw [if_neg h6] at h
  rcases hq : wbDrop k.b m.line with ⟨b, e⟩
  rw [hq] at h
  simp only at h ⊢
  by_cases he : e = 0
  · subst he; simp at h
  · rw [if_pos he]; exact ⟨rfl, rfl, rfl⟩

section
variable {c : Cfg} {k : Cache} (h : CInv c k)
include h

theorem CInv.takeN {n : Int} (hg : GotLe n k) (m : Msg) : Nx c (n + 1) k (k.take m).1 := by
  have hg' := hg.mono (show n ≤ n + 1 by omega)
  unfold Cache.take
  split
  · exact h.same hg'
  rename_i h0
  simp only [Bool.or_eq_true, Bool.not_eq_true', not_or, Bool.not_eq_false] at h0
  have hm := may_facts (c := k.c) h0.1.1
  have hc := h.cfg
  split
  · exact h.tellN hg' m 1 3 false (by omega)
  split
  · exact h.tellN hg' m 4 0 true (by omega)
  split
  · exact h.invN hg' m
  split
  · rename_i hk
    have := (hm.2.1 hk)
    rw [hc] at this
    exact h.dataN hg' this.1 this.2
  split
  · rename_i hk
    split
    · exact h.same hg'
    · exact h.grantN hg' (hm.2.2 hk)
  split
  · exact h.ackN hg
  · have hd := h.dropE m.line
    rcases hq : wbDrop k.b m.line with ⟨b, e⟩
    simp only
    split
    · exact h.same hg'
    · rw [hq] at hd; exact ⟨hd.1, rfl, hg'⟩
end

structure Step where
  what : Int
  a : Int
  b : Int
  m : Msg
  x : Op
structure Rep where
  m : Msg
  is : Bool
  n : Int
  e : Int
def Rep.none : Rep := ⟨Msg.none, false, 0, 0⟩
def stepC (k : Cache) (s : Step) : Cache × Rep :=
  if s.what = 0 then ((k.ask s.a s.b).1, ⟨(k.ask s.a s.b).2.1, false, 0, (k.ask s.a s.b).2.2⟩)
  else if s.what = 1 then ((k.evict s.a s.b).1, ⟨(k.evict s.a s.b).2.1, (k.evict s.a s.b).2.2.1, 0, (k.evict s.a s.b).2.2.2⟩)
  else if s.what = 2 then ((k.take s.m).1, ⟨(k.take s.m).2.1, (k.take s.m).2.2.1, 0, (k.take s.m).2.2.2⟩)
  else if s.what = 3 then (k.finish.1, ⟨k.finish.2.getD Msg.none, k.finish.2.isSome, 0, 0⟩)
  else ((k.do s.x).1, ⟨Msg.none, false, (k.do s.x).2.1, (k.do s.x).2.2⟩)

theorem CInv.stepN {c : Cfg} {k : Cache} (h : CInv c k) (hc : c.ok = true) {n : Int} (hn : 0 ≤ n) (hg : GotLe n k) (s : Step) : Nx c (n + 1) k (stepC k s).1 := by
  have hg' := hg.mono (show n ≤ n + 1 by omega)
  unfold stepC
  split
  · exact h.askN (by omega) hg' s.a s.b
  split
  · exact h.evictN hg' s.a s.b
  split
  · exact h.takeN hg s.m
  split
  · exact h.finN hg'
  · exact h.doN hc hg' s.x

theorem CInv.step_err {c : Cfg} {k : Cache} (h : CInv c k) (hc : c.ok = true) (s : Step) (he : (stepC k s).2.e ≠ 0) : (stepC k s).1 = k ∧ (stepC k s).2.m = Msg.none ∧ (stepC k s).2.is = false ∧ (stepC k s).2.n = 0 := by
  unfold stepC at he ⊢
  split
  · rename_i h1; rw [if_pos h1] at he
    have := (h.ask s.a s.b).1 he
    exact ⟨this.1, this.2, rfl, rfl⟩
  rename_i h1; rw [if_neg h1] at he
  split
  · rename_i h2; rw [if_pos h2] at he
    have := (h.evict s.a s.b).1 he
    exact ⟨this.1, this.2.1, this.2.2, rfl⟩
  rename_i h2; rw [if_neg h2] at he
  split
  · rename_i h3; rw [if_pos h3] at he
    have := take_err he
    exact ⟨this.1, this.2.1, this.2.2, rfl⟩
  rename_i h3; rw [if_neg h3] at he
  split
  · rename_i h4; rw [if_pos h4] at he; exact absurd rfl he
  · rename_i h4; rw [if_neg h4] at he
    have := (h.doE hc s.x).1 he
    exact ⟨this.1, rfl, rfl, this.2⟩

/-- some steps -/
def runC (k : Cache) : List Step → Cache
  | [] => k
  | s :: l => runC (stepC k s).1 l
theorem runC_snoc (k : Cache) (l : List Step) (s : Step) : runC k (l ++ [s]) = (stepC (runC k l) s).1 := by
  induction l generalizing k with
  | nil => rfl
  | cons x l ih => exact ih _
theorem CInv.runN {c : Cfg} (hc : c.ok = true) : ∀ (l : List Step) {k : Cache} {n : Int}, CInv c k → 0 ≤ n → GotLe n k → Nx c (n + l.length) k (runC k l)
  | [], k, n, h, _, hg => by simp only [runC, List.length_nil, Int.natCast_zero, Int.add_zero]; exact h.same hg
  | s :: l, k, n, h, hn, hg => by
    obtain ⟨a1, a2, a3⟩ := h.stepN hc hn hg s
    obtain ⟨b1, b2, b3⟩ := CInv.runN hc l a1 (by omega) a3
    refine ⟨b1, b2.trans a2, ?_⟩
    have : n + ((s :: l).length : Nat) = n + 1 + (l.length : Nat) := by simp; omega
    rw [this]; exact b3

/-! ### a line's first word -/
theorem ok_lines {c : Cfg} (hc : c.ok = true) : 1 ≤ c.lines ∧ c.lines ≤ 1024 := by
  simp only [Cfg.ok, Bool.and_eq_true, isPow, decide_eq_true_eq, List.contains_eq_mem, pows, List.mem_cons, List.not_mem_nil, or_false] at hc
  omega
theorem first_word {c : Cfg} (hc : c.ok = true) {l : Int} (hl : 0 ≤ l ∧ l < c.lines) : inR (l * c.words) c.size = true ∧ c.lineOf (l * c.words) = l ∧ c.wordOf (l * c.words) = 0 ∧ 0 ≤ l * c.words ∧ l * c.words ≤ 8191 := by
  have hw := ok_words hc
  have hn := ok_lines hc
  have h0 : 0 ≤ l * c.words := Int.mul_nonneg hl.1 (by omega)
  have h1 : (l + 1) * c.words ≤ c.lines * c.words := Int.mul_le_mul_of_nonneg_right (by omega) (by omega)
  have h2 : (l + 1) * c.words = l * c.words + c.words := by rw [Int.add_mul]; omega
  have h3 : c.lines * c.words ≤ 1024 * 8 := Int.mul_le_mul (by omega) (by omega) (by omega) (by omega)
  refine ⟨inR_iff.2 ⟨h0, ?_⟩, ?_, ?_, h0, by omega⟩
  · unfold Cfg.size; rw [if_pos hc, Int.mul_comm c.words]; omega
  · unfold Cfg.lineOf; exact Int.mul_ediv_cancel l (by omega)
  · unfold Cfg.wordOf; rw [Int.mul_emod_left]; rfl

section
variable {c : Cfg} {k : Cache} (h : CInv c k) (hc : c.ok = true)
include h hc

theorem CInv.doLoad {l : Int} (hl : 0 ≤ l ∧ l < c.lines) : k.do ⟨1, l * c.words, 0⟩ = if (k.look l).state ≠ 0 then (k, (k.look l).words.get 0, 0) else (k, 0, 5) := by
  obtain ⟨f1, f2, f3, f4, f5⟩ := first_word hc hl
  have hcc := h.cfg
  subst hcc
  unfold Cache.do applyOp
  have hmay : Op.may ⟨1, l * k.c.words, 0⟩ = true := by simp [Op.may, inC, f4, f5]
  simp only [f1, if_true, f2, f3, hc, hmay, Bool.not_true, Bool.or_false, Bool.false_or, show ((1 : Int) == 4) = false from rfl, Bool.false_eq_true, if_false, ne_eq, not_true_eq_false, opKind, Cache.can, canDo, touch, show ¬ (1 : Int) = 2 by omega, show ¬ (1 : Int) = 3 by omega]
  by_cases hs : (k.look l).state = 0
  · simp [hs]
  · simp [hs]
theorem CInv.doSwapNo {l v : Int} (hl : 0 ≤ l ∧ l < c.lines) (hv : -2147483648 ≤ v ∧ v ≤ 2147483647) (hs : ¬ ((k.look l).state = 2 ∨ (k.look l).state = 4)) : k.do ⟨3, l * c.words, v⟩ = (k, 0, 5) := by
  obtain ⟨f1, f2, f3, f4, f5⟩ := first_word hc hl
  have hcc := h.cfg
  subst hcc
  unfold Cache.do applyOp
  have hmay : Op.may ⟨3, l * k.c.words, v⟩ = true := by simp [Op.may, inC, f4, f5, hv]
  have hcan : canDo (k.look l).state 2 = false := by
    simp only [canDo, show ¬ (2 : Int) = 1 by omega, if_false]
    rw [Bool.or_eq_false_iff]
    exact ⟨by simpa using fun e => hs (.inl e), by simpa using fun e => hs (.inr e)⟩
  simp only [f1, if_true, f2, f3, hc, hmay, Bool.not_true, Bool.or_false, Bool.false_or, show ((3 : Int) == 4) = false from rfl, Bool.false_eq_true, if_false, ne_eq, not_true_eq_false, opKind, Cache.can, show ¬ (3 : Int) = 1 by omega, hcan, Bool.not_false]

/-- behind a message that lets go -/
theorem CInv.lets {l who kind : Int} (hl : 0 ≤ l ∧ l < c.lines) (hk : 4 ≤ kind ∧ kind ≤ 6) (m : Msg) (hm : m = ⟨kind, l, l % c.homes, k.core, who, 0, 0, Words.zero⟩) :
    ((k.take m).2.2.2 = 0 → (kind ≠ 4 → ((k.take m).1.look l).state = 0) ∧ (kind = 4 → (((k.take m).1.look l).state = 3 ∧ (k.look l).state ≠ 0 ∨ ((k.take m).1.look l).state = 0 ∧ (k.look l).state = 0) ∧ ((k.take m).1.look l).words.get 0 = (k.look l).words.get 0)) := by
  intro he
  have hml : m.line = l := by rw [hm]
  unfold Cache.take at he ⊢
  split
  · rename_i h0; rw [if_pos h0] at he; simp at he
  rename_i h0
  rw [if_neg h0] at he
  have tl : ∀ (own state : Int) (give : Bool), 0 ≤ state ∧ state ≤ 4 → (k.tell m own state give).2.2.2 = 0 → (2 ≤ (k.look l).state ∧ ((k.tell m own state give).1.look l).state = state ∧ (state ≠ 0 → ((k.tell m own state give).1.look l).words = (k.look l).words)) ∨ ((k.look l).state = 0 ∧ ∀ x, (k.tell m own state give).1.look x = k.look x) := by
    intro own state give hs he
    obtain ⟨t1, t2, t3⟩ := h.tell m own state give hs
    rw [hml] at t1 t2 t3
    by_cases h2 : 2 ≤ (k.look l).state
    · obtain ⟨k', e, _, _, _, _, _, a1, a2⟩ := t1 h2
      left; rw [e]; exact ⟨h2, a1, a2⟩
    · right
      cases hb : wbOf k.b l with
      | none => rw [t3 (by omega) (fun e he => by rw [hb] at he; cases he)] at he; cases he
      | some e =>
        refine ⟨(h.buf_st (l := l) (by rw [hb]; rfl)).1, ?_⟩
        cases hlv : e.live with
        | true => obtain ⟨k', e, _, _, _, a1, _⟩ := t2 (by omega) e hb hlv; rw [e]; exact a1
        | false => rw [t3 (by omega) (fun e' he => by rw [hb] at he; injection he with he; subst he; exact hlv)] at he; cases he
  have hmk : m.kind = kind := by rw [hm]
  rw [hmk] at he ⊢
  by_cases h4 : kind = 4
  · rw [if_pos h4] at he ⊢
    refine ⟨fun e => absurd h4 e, fun _ => ?_⟩
    rcases tl 1 3 false (by omega) he with ⟨a, b, d⟩ | ⟨a, b⟩
    · exact ⟨.inl ⟨b, by omega⟩, by rw [d (by omega)]⟩
    · exact ⟨.inr ⟨by rw [b]; exact a, a⟩, by rw [b]⟩
  · rw [if_neg h4] at he ⊢
    refine ⟨fun _ => ?_, fun e => absurd e h4⟩
    by_cases h5 : kind = 5
    · rw [if_pos h5] at he ⊢
      rcases tl 4 0 true (by omega) he with ⟨_, b, _⟩ | ⟨a, b⟩
      · exact b
      · rw [b]; exact a
    · rw [if_neg h5, if_pos (by omega)] at he ⊢
      obtain ⟨t1, t2⟩ := h.invE m
      rw [hml] at t1 t2
      by_cases h2 : 2 ≤ (k.look l).state
      · rw [t1 h2] at he; cases he
      · obtain ⟨k', e, _, _, _, _, _, a⟩ := t2 (by omega)
        rw [e]; exact a
end
end Mes
namespace Mes
section
variable {c : Cfg} {k : Cache} (h : CInv c k) (hc : c.ok = true)
include h hc
theorem CInv.letsAll {n : Int} (hg : GotLe n k) {l who kind : Int} (hl : 0 ≤ l ∧ l < c.lines) (hk : 4 ≤ kind ∧ kind ≤ 6) (m : Msg) (hm : m = ⟨kind, l, l % c.homes, k.core, who, 0, 0, Words.zero⟩) :
    (k.do ⟨1, l * c.words, 0⟩).1 = k ∧ ((k.take m).1.do ⟨1, l * c.words, 0⟩).1 = (k.take m).1 ∧
    ((k.take m).2.2.2 ≠ 0 → ((k.take m).1.do ⟨1, l * c.words, 0⟩).2 = (k.do ⟨1, l * c.words, 0⟩).2) ∧
    ((k.take m).2.2.2 = 0 → kind ≠ 4 → ((k.take m).1.do ⟨1, l * c.words, 0⟩).2.2 = 5) ∧
    ((k.take m).2.2.2 = 0 → kind = 4 → ((k.take m).1.do ⟨1, l * c.words, 0⟩).2 = (k.do ⟨1, l * c.words, 0⟩).2 ∧ ((k.take m).1.do ⟨3, l * c.words, 0⟩).2.2 = 5) := by
  have h2 := (h.takeN hg m).inv
  have e1 := h.doLoad hc hl
  have e2 := h2.doLoad hc hl
  have hL := h.lets hc hl hk m hm
  have fst : ∀ (q : Cache) (w : Words) (s : Int), (if s ≠ 0 then (q, w.get 0, (0 : Int)) else (q, 0, 5)).1 = q := fun q w s => by split <;> rfl
  refine ⟨by rw [e1]; exact fst .., by rw [e2]; exact fst .., fun he => ?_, fun he hk4 => ?_, fun he hk4 => ?_⟩
  · have := (take_err he).1
    rw [this]
  · rw [e2, if_neg (by have := (hL he).1 hk4; omega)]
  · obtain ⟨a, b⟩ := (hL he).2 hk4
    have hs3 : ¬ (((k.take m).1.look l).state = 2 ∨ ((k.take m).1.look l).state = 4) := by omega
    refine ⟨?_, by rw [h2.doSwapNo hc hl (by omega) hs3]⟩
    rw [e1, e2, b]
    rcases a with ⟨a1, a2⟩ | ⟨a1, a2⟩
    · rw [if_pos (by omega), if_pos a2]
    · rw [if_neg (by omega), if_neg (by omega)]
end
end Mes
end
section
/- A line that was asked for, to be written: it is filled with the last of its words and acks. -/
namespace Mes
def Words.one (v : Int) : Words := ⟨[v, 0, 0, 0, 0, 0, 0, 0], rfl⟩
theorem Words.one_get (v : Int) (i : Nat) : (Words.one v).get i = if i = 0 then v else 0 := by
  match i with
  | 0 => rfl
  | 1 => rfl
  | 2 => rfl
  | 3 => rfl
  | 4 => rfl
  | 5 => rfl
  | 6 => rfl
  | 7 => rfl
  | n + 8 => rw [if_neg (by omega)]; simp [Words.get, Words.one, List.getD_eq_getElem?_getD]
theorem valuesOk_one {c : Cfg} (hc : c.ok = true) {v : Int} (hv : -2147483648 ≤ v ∧ v ≤ 2147483647) : valuesOk c (Words.one v) = true := by
  have hw := ok_words hc
  refine valuesOk_iff.2 fun i _ => ?_
  rw [Words.one_get]
  split
  · exact ⟨hv, .inl (by omega)⟩
  · exact ⟨by omega, .inr rfl⟩
/-- behind i of the messages; the words come behind so many acks -/
structure Fil (c : Cfg) (core line acks ahead : Int) (W : Words) (i : Int) (k : Cache) : Prop where
  inv : CInv c k
  core : k.core = core
  less : i ≤ acks → ∃ m, missOf k.f line = some m ∧ m.kind = 2 ∧ m.granted = false ∧ m.owes = false ∧ ¬ ((k.look line).state = 2 ∨ (k.look line).state = 4) ∧ (i ≤ ahead → m.needs = -1 ∧ m.got = i) ∧ (ahead < i → m.needs = acks ∧ m.got = i - 1 ∧ m.own = 4 ∧ m.words = W)
  full : acks < i → (missOf k.f line).isSome = true ∧ (k.look line).state = 4 ∧ (k.look line).words = W
section
variable {c : Cfg} {k : Cache} {core line acks ahead i v : Int} {W : Words}
theorem Fil.zero (h : CInv c k) (he : (k.ask line 2).2.2 = 0) (ha : 0 ≤ ahead) (hk : 0 ≤ acks) : Fil c k.core line acks ahead W 0 (k.ask line 2).1 := by
  obtain ⟨a1, _, _, _, a5, _, a7, a8, _, a10, a11⟩ := (h.ask line 2).2 he
  refine ⟨a1, a8, fun _ => ⟨Miss.new line 2, by rw [a10, missNew line 2 line a5, if_pos rfl], rfl, rfl, rfl, ?_, fun _ => ⟨rfl, rfl⟩, fun e => absurd e (by omega)⟩, fun e => absurd e (by omega)⟩
  rw [(a11 line).1]
  intro e
  simp only [Cache.can, canDo, show ¬ (2 : Int) = 1 by omega, if_false, Bool.or_eq_false_iff, beq_eq_false_iff_ne] at a7
  rcases e with e | e
  · exact a7.1 e
  · exact a7.2 e
theorem Fil.no (h : Fil c core line acks ahead W i k) (hc : c.ok = true) (hl : 0 ≤ line ∧ line < c.lines) (hi : i ≤ acks) : k.do ⟨3, line * c.words, 3⟩ = (k, 0, 5) := by
  obtain ⟨m, _, _, _, _, hs, _⟩ := h.less hi
  exact h.inv.doSwapNo hc hl (by omega) hs
theorem Fil.put (h : Fil c core line acks ahead W i k) (hi : i ≤ acks) {μ μ' : Miss} (hm : missOf k.f line = some μ) (hok : MOk c μ') (hl : μ'.line = μ.line) (ho : μ'.owes = false) {g : Miss → Miss} (hg : g μ = μ') (hgl : ∀ x, (g x).line = x.line)
    (hk : μ'.kind = 2) (hgr : μ'.granted = false) (h1 : i + 1 ≤ ahead → μ'.needs = -1 ∧ μ'.got = i + 1) (h2 : ahead < i + 1 → μ'.needs = acks ∧ μ'.got = i ∧ μ'.own = 4 ∧ μ'.words = W) (hp : ahead ≤ acks) (h0 : 0 ≤ i) :
    ∃ k', ({ k with f := updMiss k.f line g } : Cache).filled line 0 = (k', Msg.none, false, 0) ∧ Fil c core line acks ahead W (i + 1) k' := by
  obtain ⟨k', e, a1, a2, _, _, a5⟩ := h.inv.filled hm hok hl ho hg hgl
  obtain ⟨m, hm', _, _, _, hs, _⟩ := h.less hi
  refine ⟨k', e, a1, a2.trans h.core, fun hi2 => ?_, fun hi2 => ?_⟩
  · have hne : μ'.needs ≠ μ'.got := by
      by_cases hh : i + 1 ≤ ahead
      · have := h1 hh; omega
      · have := h2 (by omega); omega
    rw [if_neg hne] at a5
    refine ⟨μ', a5.1, hk, hgr, ho, by rw [a5.2]; exact hs, h1, fun e => ?_⟩
    have := h2 e
    exact ⟨this.1, by omega, this.2.2⟩
  · have := h2 (by omega)
    have hne : μ'.needs = μ'.got := by omega
    rw [if_pos hne] at a5
    refine ⟨by rw [a5.1]; rfl, by rw [a5.2.1]; exact this.2.2.1, ?_⟩
    rw [a5.2.2, hgr]
    exact this.2.2.2
theorem Fil.ack (h : Fil c core line acks ahead W i k) (hc : c.ok = true) (hcore : inR core c.cores = true) (hl : 0 ≤ line ∧ line < c.lines) (h0 : 0 ≤ i) (hi : i ≤ acks) (hp : ahead ≤ acks) (hne : i ≠ ahead) {frm : Int} (hf : inR frm c.cores = true) (hfc : frm ≠ core) :
    (k.take ⟨9, line, frm, core, 0, 0, 0, Words.zero⟩).2 = (Msg.none, false, 0) ∧ Fil c core line acks ahead W (i + 1) (k.take ⟨9, line, frm, core, 0, 0, 0, Words.zero⟩).1 := by
  have hcc := h.inv.cfg
  have hmay : Msg.may k.c ⟨9, line, frm, core, 0, 0, 0, Words.zero⟩ = true := by
    rw [hcc]
    have : inR line c.lines = true := inR_iff.2 hl
    simp [Msg.may, hc, netOf, Msg.form, this, hf, hcore, hfc, plainMsg]
    decide
  have hcn : (k.core != core) = false := by rw [h.core]; simp
  obtain ⟨m, hm, hk, hgr, ho, hs, g1, g2⟩ := h.less hi
  have hmo := h.inv.okF line m hm
  have hn : ¬ (m.kind = 1 ∨ m.needs = m.got) := by
    by_cases hh : i ≤ ahead
    · have := g1 hh; omega
    · have := g2 (by omega); omega
  obtain ⟨ok, _⟩ := hmo.ack (fun e => hn (.inr e))
  obtain ⟨k', e, hF⟩ := h.put hi hm ok rfl ho (g := fun m => { m with got := m.got + 1 }) rfl (fun _ => rfl) hk hgr (fun hh => by have := g1 (by omega); simp only; omega) (fun hh => by have := g2 (by omega); simp only; exact ⟨this.1, by omega, this.2.2⟩) hp h0
  have et : k.take ⟨9, line, frm, core, 0, 0, 0, Words.zero⟩ = (k', Msg.none, false, 0) := by
    unfold Cache.take
    rw [if_neg (by rw [hmay, show toHome 9 = false from rfl]; simp [h.core])]
    simp only [show ¬ (9 : Int) = 4 by omega, show ¬ (9 : Int) = 5 by omega, show ¬ (9 : Int) = 6 by omega, show ¬ (9 : Int) = 7 by omega, show ¬ (9 : Int) = 8 by omega, if_false, if_true]
    unfold missAck
    rw [hm]
    simp only [if_neg hn]
    exact e
  rw [et]
  exact ⟨rfl, hF⟩
theorem Fil.data (h : Fil c core line acks ahead W i k) (hc : c.ok = true) (hcore : inR core c.cores = true) (hl : 0 ≤ line ∧ line < c.lines) (h0 : 0 ≤ i) (hi : i ≤ acks) (hp : ahead ≤ acks) (hne : i = ahead) (hW : valuesOk c W = true) (hak : acks = c.cores - 1) :
    (k.take ⟨7, line, line % c.homes, core, 0, acks, 4, W⟩).2 = (Msg.none, false, 0) ∧ Fil c core line acks ahead W (i + 1) (k.take ⟨7, line, line % c.homes, core, 0, acks, 4, W⟩).1 := by
  have hcc := h.inv.cfg
  have hmay : Msg.may k.c ⟨7, line, line % c.homes, core, 0, acks, 4, W⟩ = true := by
    rw [hcc]
    have : inR line c.lines = true := inR_iff.2 hl
    have h3 : inR acks c.cores = true := inR_iff.2 (by have := inR_iff.1 hcore; omega)
    simp [Msg.may, hc, netOf, Msg.form, this, hcore, h3, hW, Cfg.homeOf]
  obtain ⟨m, hm, hk, hgr, ho, hs, g1, g2⟩ := h.less hi
  have hmo := h.inv.okF line m hm
  have g1' := g1 (by omega)
  have hfit : m.fits acks 4 = true := Miss.fits_iff.2 ⟨g1'.1, by omega, .inl ⟨hk, rfl⟩⟩
  obtain ⟨ok, _⟩ := hmo.data hfit hW (by omega) m.granted
  obtain ⟨k', e, hF⟩ := h.put hi hm ok rfl ho (g := fun m => { m with needs := acks, own := 4, words := W }) rfl (fun _ => rfl) hk hgr (fun hh => by omega) (fun hh => ⟨rfl, by simp only; omega, rfl, rfl⟩) hp h0
  have et : k.take ⟨7, line, line % c.homes, core, 0, acks, 4, W⟩ = (k', Msg.none, false, 0) := by
    unfold Cache.take
    rw [if_neg (by rw [hmay, show toHome 7 = false from rfl]; simp [h.core])]
    simp only [show ¬ (7 : Int) = 4 by omega, show ¬ (7 : Int) = 5 by omega, show ¬ (7 : Int) = 6 by omega, if_false, if_true]
    unfold missData
    rw [hm]
    simp only [if_pos hfit]
    exact e
  rw [et]
  exact ⟨rfl, hF⟩
theorem Fil.last (h : Fil c core line acks ahead (Words.one v) i k) (hc : c.ok = true) (hl : 0 ≤ line ∧ line < c.lines) (hi : acks < i) :
    (k.do ⟨3, line * c.words, 3⟩).2 = (v, 0) ∧ ((k.do ⟨3, line * c.words, 3⟩).1.find line).isSome = true ∧ ((k.do ⟨3, line * c.words, 3⟩).1.look line).state = 4 ∧ ((k.do ⟨3, line * c.words, 3⟩).1.look line).locked = true ∧ ((k.do ⟨3, line * c.words, 3⟩).1.look line).words = Words.one 3 := by
  obtain ⟨f1, f2, f3, f4, f5⟩ := first_word hc hl
  obtain ⟨hm, hs, hw⟩ := h.full hi
  have hinv := h.inv
  have hcc := hinv.cfg
  have he : (k.do ⟨3, line * c.words, 3⟩).2.2 = 0 := by
    subst hcc
    unfold Cache.do applyOp
    have hmay : Op.may ⟨3, line * k.c.words, 3⟩ = true := by simp [Op.may, inC, f4, f5]
    simp only [f1, if_true, f2, f3, hc, hmay, Bool.not_true, Bool.or_false, Bool.false_or, show ((3 : Int) == 4) = false from rfl, Bool.false_eq_true, if_false, ne_eq, not_true_eq_false, opKind, Cache.can, show ¬ (3 : Int) = 1 by omega, canDo, show ¬ (2 : Int) = 1 by omega, hs, beq_self_eq_true, Bool.or_true]
  obtain ⟨d1, d2, d3, d4, d5, d6, d7, d8, d9, d10, d11, d12⟩ := (hinv.doE hc ⟨3, line * c.words, 3⟩).2 he
  simp only [f2, f3] at d5 d12
  have d12' := d12 (by omega)
  have hfd := d6.found (l := line) (by rw [d12']; simp)
  refine ⟨Prod.ext ?_ he, ?_, by rw [d12'], ?_, ?_⟩
  · rw [d5, hw]; simp [touch, Words.one_get]
  · unfold Cache.find; rw [d6.cfg, hfd]; rfl
  · rw [d12']
    obtain ⟨w, h1, h2⟩ := hinv.miss_there hm
    simp only
    rw [hinv.look_some h1]; exact h2
  · rw [d12', hw]; rfl
end
end Mes
end
section
/- Who owns a line tells its words, evicted or not. -/
namespace Mes
theorem lineOf_rng {c : Cfg} (hc : c.ok = true) {a : Int} (h : inR a c.size = true) : (0 ≤ c.lineOf a ∧ c.lineOf a < c.lines) ∧ a % c.words = (c.wordOf a : Nat) ∧ c.wordOf a < 8 := by
  have hw := ok_words hc
  have h' := inR_iff.1 h
  have hs : c.size = c.words * c.lines := by unfold Cfg.size; rw [if_pos hc]
  rw [hs] at h'
  have hl := wordOf_lt hc a
  refine ⟨⟨Int.ediv_nonneg h'.1 (by omega), Int.ediv_lt_of_lt_mul (by omega) (by rw [Int.mul_comm]; exact h'.2)⟩, ?_, by omega⟩
  unfold Cfg.wordOf
  have := Int.emod_nonneg a (show c.words ≠ 0 by omega)
  omega
structure Hold (c : Cfg) (core line : Int) (W : Words) (k : Cache) : Prop where
  inv : CInv c k
  core : k.core = core
  own : (2 ≤ (k.look line).state ∧ (k.look line).words = W) ∨ ((k.look line).state < 2 ∧ ∃ e, wbOf k.b line = some e ∧ e.live = true ∧ e.words = W)
section
variable {c : Cfg} {k : Cache} {core line who : Int} {W : Words}
theorem Hold.evict (h : Hold c core line W k) (s w : Int) : Hold c core line W (k.evict s w).1 := by
  obtain ⟨h1, h2⟩ := h.inv.evict s w
  by_cases he : (k.evict s w).2.2.2 = 0
  · obtain ⟨l, hl, a1, a2, a3, a4, a5, a6, a7, a8, a9⟩ := h2 he
    refine ⟨a1, a2.trans h.core, ?_⟩
    by_cases hll : l = line
    · subst hll
      rcases h.own with ⟨o1, o2⟩ | ⟨o1, e, o2, o3⟩
      · rcases a9 with ⟨b1, _⟩ | ⟨b1, _, _, b4⟩
        · omega
        · right
          refine ⟨by rw [a8 l, if_pos rfl]; simp [Way.none], ⟨l, (k.look l).words, true⟩, ?_, rfl, o2⟩
          rw [b4, wbNew l l _ a5, if_pos rfl]
      · rw [a5] at o2; cases o2
    · have e1 : (k.evict s w).1.look line = k.look line := by rw [a8 line, if_neg (fun e => hll e.symm)]
      have e2 : wbOf (k.evict s w).1.b line = wbOf k.b line := by
        rcases a9 with ⟨_, _, _, b4⟩ | ⟨_, _, _, b4⟩
        · rw [b4]
        · rw [b4, wbNew l line _ a5, if_neg (fun e => hll e.symm)]
      rw [e1, e2]; exact h.own
  · rw [(h1 he).1]; exact h
theorem fwd_may {kind : Int} (hk : kind = 4 ∨ kind = 5) (hc : c.ok = true) (hl : 0 ≤ line ∧ line < c.lines) (hcore : inR core c.cores = true) (hw : inR who c.cores = true) (hwc : who ≠ core) :
    Msg.may c ⟨kind, line, line % c.homes, core, who, 0, 0, Words.zero⟩ = true := by
  have h1 : inR line c.lines = true := inR_iff.2 hl
  have h2 : inR 0 c.cores = true := inR_iff.2 (by have := inR_iff.1 hcore; omega)
  have h3 : inR 0 (1 : Int) = true := inR_iff.2 (by omega)
  rcases hk with rfl | rfl <;> simp [Msg.may, hc, netOf, Msg.form, h1, h2, h3, hcore, hw, hwc]
theorem Hold.tell (h : Hold c core line W k) (m : Msg) (hm : m.line = line) (own state : Int) (give : Bool) (hs : 0 ≤ state ∧ state ≤ 4) :
    ∃ k', k.tell m own state give = (k', ⟨7, line, core, m.who, 1, m.acks, own, W⟩, true, 0) ∧ CInv c k' ∧ k'.core = core ∧
      (((k'.look line).state = state ∧ (state ≠ 0 → (k'.look line).words = W) ∧ wbOf k'.b line = none) ∨ ((k'.look line).state < 2 ∧ ∃ e, wbOf k.b line = some e ∧ e.live = true ∧ e.words = W ∧ k'.b = if give then wbKill k.b line else k.b)) := by
  obtain ⟨t1, t2, t3⟩ := h.inv.tell m own state give hs
  rw [hm] at t1 t2 t3
  rcases h.own with ⟨o1, o2⟩ | ⟨o1, e, o2, o3, o4⟩
  · obtain ⟨k', e, a1, a2, a3, a4, a5, a6, a7⟩ := t1 o1
    refine ⟨k', by rw [e, h.core, o2], a1, a2.trans h.core, .inl ⟨a6, fun hz => by rw [a7 hz, o2], ?_⟩⟩
    rw [a4]
    cases hb : wbOf k.b line with
    | none => rfl
    | some e9 =>
      have := (h.inv.buf_st (l := line) (by rw [hb]; rfl)).1
      omega
  · obtain ⟨k', e5, a1, a2, a3, a4, a5⟩ := t2 o1 e o2 o3
    exact ⟨k', by rw [e5, h.core, o4], a1, a2.trans h.core, .inr ⟨by rw [a4 line]; exact o1, e, o2, o3, o4, a5⟩⟩
theorem Hold.share (h : Hold c core line W k) (hc : c.ok = true) (hl : 0 ≤ line ∧ line < c.lines) (hcore : inR core c.cores = true) (hw : inR who c.cores = true) (hwc : who ≠ core) :
    (k.take ⟨4, line, line % c.homes, core, who, 0, 0, Words.zero⟩).2 = (⟨7, line, core, who, 1, 0, 1, W⟩, true, 0) ∧ Hold c core line W (k.take ⟨4, line, line % c.homes, core, who, 0, 0, Words.zero⟩).1 := by
  obtain ⟨k', e, a1, a2, a3⟩ := h.tell ⟨4, line, line % c.homes, core, who, 0, 0, Words.zero⟩ rfl 1 3 false (by omega)
  have et : k.take ⟨4, line, line % c.homes, core, who, 0, 0, Words.zero⟩ = k.tell ⟨4, line, line % c.homes, core, who, 0, 0, Words.zero⟩ 1 3 false := by
    unfold Cache.take
    rw [if_neg (by rw [h.inv.cfg, fwd_may (.inl rfl) hc hl hcore hw hwc, show toHome 4 = false from rfl]; simp [h.core]), if_pos rfl]
  rw [et, e]
  refine ⟨rfl, a1, a2, ?_⟩
  rcases a3 with ⟨b1, b2, b3⟩ | ⟨b1, e, b2, b3, b4, b5⟩
  · exact .inl ⟨by show 2 ≤ (k'.look line).state; omega, b2 (by omega)⟩
  · exact .inr ⟨b1, e, by rw [b5]; exact b2, b3, b4⟩
theorem Hold.give (h : Hold c core line W k) (hc : c.ok = true) (hl : 0 ≤ line ∧ line < c.lines) (hcore : inR core c.cores = true) (hw : inR who c.cores = true) (hwc : who ≠ core) :
    (k.take ⟨5, line, line % c.homes, core, who, 0, 0, Words.zero⟩).2 = (⟨7, line, core, who, 1, 0, 4, W⟩, true, 0) ∧ ((k.take ⟨5, line, line % c.homes, core, who, 0, 0, Words.zero⟩).1.take ⟨4, line, line % c.homes, core, who, 0, 0, Words.zero⟩).2.2.2 = 7 := by
  obtain ⟨k', e, a1, a2, a3⟩ := h.tell ⟨5, line, line % c.homes, core, who, 0, 0, Words.zero⟩ rfl 4 0 true (by omega)
  have et : k.take ⟨5, line, line % c.homes, core, who, 0, 0, Words.zero⟩ = k.tell ⟨5, line, line % c.homes, core, who, 0, 0, Words.zero⟩ 4 0 true := by
    unfold Cache.take
    rw [if_neg (by rw [h.inv.cfg, fwd_may (.inr rfl) hc hl hcore hw hwc, show toHome 5 = false from rfl]; simp [h.core]), if_neg (show ¬ (5 : Int) = 4 by omega), if_pos rfl]
  rw [et, e]
  refine ⟨rfl, ?_⟩
  have et2 : k'.take ⟨4, line, line % c.homes, core, who, 0, 0, Words.zero⟩ = k'.tell ⟨4, line, line % c.homes, core, who, 0, 0, Words.zero⟩ 1 3 false := by
    unfold Cache.take
    rw [if_neg (by rw [a1.cfg, fwd_may (.inl rfl) hc hl hcore hw hwc, show toHome 4 = false from rfl]; simp [a2]), if_pos rfl]
  show (k'.take ⟨4, line, line % c.homes, core, who, 0, 0, Words.zero⟩).2.2.2 = 7
  rw [et2]
  obtain ⟨_, _, t3⟩ := a1.tell ⟨4, line, line % c.homes, core, who, 0, 0, Words.zero⟩ 1 3 false (by omega)
  rcases a3 with ⟨b1, _, b3⟩ | ⟨b1, e, b2, b3, b4, b5⟩
  · rw [t3 (by show (k'.look line).state < 2; omega) (fun e he => by simp only [b3] at he; cases he)]
  · rw [t3 b1 (fun e' he => by
      simp only [if_true] at b5
      simp only [b5, wbOf_kill, if_true, b2, Option.map_some] at he
      injection he with he; rw [← he])]
/-- behind an operation that went through -/
theorem CInv.written (h : CInv c k) (hc : c.ok = true) (x : Op) (he : (k.do x).2.2 = 0) :
    inR x.addr c.size = true ∧ ((k.do x).1.look (c.lineOf x.addr)).words = (if x.kind = 1 then (k.look (c.lineOf x.addr)).words else (k.look (c.lineOf x.addr)).words.set (c.wordOf x.addr) x.value) ∧
    (x.kind ≠ 2 → (k.do x).2.1 = (k.look (c.lineOf x.addr)).words.get (c.wordOf x.addr)) ∧ (x.kind ≠ 1 → ((k.do x).1.look (c.lineOf x.addr)).state = 4) ∧
    (2 ≤ ((k.do x).1.look (c.lineOf x.addr)).state → Hold c k.core (c.lineOf x.addr) (if x.kind = 1 then (k.look (c.lineOf x.addr)).words else (k.look (c.lineOf x.addr)).words.set (c.wordOf x.addr) x.value) (k.do x).1) := by
  obtain ⟨d1, d2, d3, d4, d5, d6, d7, d8, d9, d10, d11, d12⟩ := (h.doE hc x).2 he
  have hw : ((k.do x).1.look (c.lineOf x.addr)).words = (if x.kind = 1 then (k.look (c.lineOf x.addr)).words else (k.look (c.lineOf x.addr)).words.set (c.wordOf x.addr) x.value) := by
    split
    · rename_i h1; rw [d11 h1]
    · rename_i h1; rw [d12 h1]
  refine ⟨d1, hw, fun h2 => ?_, fun h1 => by rw [d12 h1], fun hs => ⟨d6, d7, .inl ⟨hs, hw⟩⟩⟩
  rw [d5]
  unfold touch
  rw [if_neg h2]
  split <;> rfl
end
end Mes
end
section
/- Locked ways are as many as misses; a miss's line is there, and isn't in the buffer. -/
namespace Mes
section
variable {c : Cfg} {k : Cache} (h : CInv c k)
include h
theorem CInv.locked : k.a.countP (·.locked) = k.f.length := by
  have hn : ((k.a.filter (·.locked)).map (·.line)).Nodup := by
    show List.Pairwise (· ≠ ·) _
    rw [List.pairwise_map, List.pairwise_filter, List.pairwise_iff_getElem]
    intro i j hi hj hij h1 h2 e
    have := h.aw.once i j _ _ (List.getElem?_eq_getElem hi) (List.getElem?_eq_getElem hj) (by simp [Way.there, h1]) (by simp [Way.there, h2]) e
    omega
  have hp : ((k.a.filter (·.locked)).map (·.line)).Perm (k.f.map Miss.line) := (List.perm_ext_iff_of_nodup hn h.uf).2 fun l => by
    have hm : l ∈ k.f.map Miss.line ↔ (missOf k.f l).isSome = true := by
      unfold missOf
      rw [List.find?_isSome, List.mem_map]
      simp
    rw [hm, h.lock l, List.mem_map]
    constructor
    · rintro ⟨w, hw, rfl⟩
      rw [List.mem_filter] at hw
      obtain ⟨i, hi⟩ := List.mem_iff_getElem?.1 hw.1
      exact ⟨w, h.aw.find.2 ⟨i, hi, by have h8 : w.locked = true := hw.2; simp [Way.there, h8], rfl⟩, hw.2⟩
    · rintro ⟨w, hw, hl⟩
      obtain ⟨i, hi, _, e⟩ := h.aw.find.1 hw
      exact ⟨w, List.mem_filter.2 ⟨List.mem_of_getElem? hi, hl⟩, e⟩
  have := hp.length_eq
  rw [List.length_map, List.length_map] at this
  rw [List.countP_eq_length_filter]; exact this
theorem CInv.of_miss {m : Miss} (hm : m ∈ k.f) : (k.find m.line).isSome = true ∧ (k.look m.line).locked = true ∧ (0 ≤ m.line ∧ m.line < c.lines) := by
  have hf : missOf k.f m.line = some m := find_uniq h.uf hm
  obtain ⟨w, hw, hl⟩ := h.miss_there (l := m.line) (by rw [hf]; rfl)
  refine ⟨by unfold Cache.find; rw [h.cfg, hw]; rfl, by rw [h.look_some hw]; exact hl, (h.rng_of hw).1⟩
theorem CInv.no_buf {m : Miss} (hm : m ∈ k.f) {e : WB} (he : e ∈ k.b) : e.line ≠ m.line := by
  intro hne
  have hf : missOf k.f m.line = some m := find_uniq h.uf hm
  obtain ⟨w, hw, _⟩ := h.miss_there (l := m.line) (by rw [hf]; rfl)
  have hb : wbOf k.b e.line = some e := find_uniq h.ub he
  have := h.nobuf e.line (by rw [hb]; rfl)
  rw [hne, hw] at this; cases this
end
theorem cnt_snoc {α : Type} {p : α → Bool} {l : List α} {j : Nat} {x : α} (h : l[j]? = some x) : (l.take (j + 1)).countP p = (l.take j).countP p + if p x then 1 else 0 := by
  rw [List.take_add_one, h, List.countP_append]; simp [List.countP_cons]
end Mes
end
