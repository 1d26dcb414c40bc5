/- A part of proofs about the given program. No condition. -/
set_option linter.all false
/- The program's data and functions, as plain Lean functions on data: no Go and no memory in it. -/
namespace Mes

/-- Eight words of a line. -/
structure Words where
  l : List Int
  len : l.length = 8
  deriving DecidableEq

namespace Words
def zero : Words := ⟨List.replicate 8 0, by simp⟩
def get (w : Words) (i : Nat) : Int := w.l.getD i 0
def set (w : Words) (i : Nat) (v : Int) : Words := ⟨w.l.set i v, by simp [w.len]⟩
instance : Inhabited Words := ⟨zero⟩
end Words

structure Cfg where
  cores : Int
  homes : Int
  sets : Int
  ways : Int
  words : Int
  lines : Int
  pointers : Int
  mshrs : Int
  buffer : Int
  writebacks : Int
  r0 : Int
  r1 : Int
  r2 : Int
  deriving DecidableEq, Inhabited

/-- Powers of two up to some number. -/
def pows : List Int := [1, 2, 4, 8, 16, 32, 64, 128, 256, 512, 1024]
def isPow (n most : Int) : Bool := pows.contains n && decide (n ≤ most)
def inR (n many : Int) : Bool := decide (0 ≤ n) && decide (n < many)
def inC (n lo hi : Int) : Bool := decide (lo ≤ n) && decide (n ≤ hi)

def Cfg.ok (c : Cfg) : Bool :=
  inC c.cores 1 64 && isPow c.homes 16 && isPow c.sets 64 && isPow c.words 8 && isPow c.lines 1024 &&
  inC c.ways 1 8 && inC c.pointers 0 8 && inC c.mshrs 1 8 && inC c.buffer 1 16 && inC c.writebacks 1 8 &&
  inC c.r0 1 64 && inC c.r1 1 64 && inC c.r2 1 64

def Cfg.room (c : Cfg) (n : Nat) : Int := match n with | 0 => c.r0 | 1 => c.r1 | _ => c.r2
def Cfg.size (c : Cfg) : Int := if c.ok then c.words * c.lines else 0

structure Op where
  kind : Int
  addr : Int
  value : Int
  deriving DecidableEq, Inhabited

def Op.none : Op := ⟨0, 0, 0⟩

def Op.may (x : Op) : Bool :=
  if x.kind = 4 then x.addr == 0 && x.value == 0
  else if x.kind = 1 then inC x.addr 0 8191 && x.value == 0
  else if x.kind = 2 ∨ x.kind = 3 then inC x.addr 0 8191 && inC x.value (-2147483648) 2147483647
  else false

def fits (c : Cfg) (l : List Op) : Bool :=
  l.all (fun x => x.may && decide (x.addr < c.size)) && c.ok && decide (l.length ≤ 64)

structure Msg where
  kind : Int
  line : Int
  frm : Int
  to : Int
  who : Int
  acks : Int
  own : Int
  words : Words
  deriving DecidableEq

def Msg.none : Msg := ⟨0, 0, 0, 0, 0, 0, 0, Words.zero⟩
instance : Inhabited Msg := ⟨Msg.none⟩

/-- a kind's network -/
def netOf (kind : Int) : Int :=
  if 1 ≤ kind ∧ kind ≤ 3 then 0 else if 4 ≤ kind ∧ kind ≤ 6 then 1 else if 7 ≤ kind ∧ kind ≤ 11 then 2 else -1
def toHome (kind : Int) : Bool := netOf kind == 0 || kind == 11

def wordOk (c : Cfg) (i : Nat) (n : Int) : Bool := inC n (-2147483648) 2147483647 && (decide ((i : Int) < c.words) || n == 0)
def valuesOk (c : Cfg) (w : Words) : Bool := (List.range 8).all fun i => wordOk c i (w.get i)

/-- no Who, no Own, acks below a bound -/
def plainMsg (m : Msg) (most : Int) : Bool := m.who == 0 && m.own == 0 && inR m.acks most

def Msg.form (c : Cfg) (m : Msg) : Bool :=
  let home := m.line % c.homes
  if m.kind = 3 then inR m.frm c.cores && m.to == home && plainMsg m 1 && valuesOk c m.words
  else if m.kind = 1 ∨ m.kind = 2 ∨ m.kind = 11 then inR m.frm c.cores && m.to == home && plainMsg m 1 && m.words == Words.zero
  else if m.kind = 4 ∨ m.kind = 6 then inR m.who c.cores && m.who != m.to && (m.frm == home && inR m.to c.cores && m.own == 0 && inR m.acks 1) && m.words == Words.zero
  else if m.kind = 5 then inR m.who c.cores && m.who != m.to && (m.frm == home && inR m.to c.cores && m.own == 0 && inR m.acks c.cores) && m.words == Words.zero
  else if m.kind = 7 then (m.own == 1 || m.own == 2 || m.own == 4) && inR m.acks c.cores && inR m.to c.cores &&
    (if m.who = 0 then m.frm == home else m.who == 1 && inR m.frm c.cores && m.frm != m.to) && valuesOk c m.words
  else if m.kind = 8 then m.frm == home && inR m.to c.cores && plainMsg m c.cores && m.words == Words.zero
  else if m.kind = 10 then m.frm == home && inR m.to c.cores && plainMsg m 1 && m.words == Words.zero
  else inR m.frm c.cores && inR m.to c.cores && m.frm != m.to && plainMsg m 1 && m.words == Words.zero

def Msg.may (c : Cfg) (m : Msg) : Bool := c.ok && netOf m.kind != -1 && inR m.line c.lines && m.form c

/-! ### split -/
def Cfg.lineOf (c : Cfg) (addr : Int) : Int := addr / c.words
def Cfg.wordOf (c : Cfg) (addr : Int) : Nat := (addr % c.words).toNat
def Cfg.homeOf (c : Cfg) (line : Int) : Int := line % c.homes
def Cfg.setOf (c : Cfg) (line : Int) : Int := line % c.sets

/-! ### array -/
structure Way where
  state : Int
  line : Int
  words : Words
  locked : Bool
  deriving DecidableEq
def Way.none : Way := ⟨0, 0, Words.zero, false⟩
instance : Inhabited Way := ⟨Way.none⟩
def Way.there (w : Way) : Bool := w.state != 0 || w.locked

/-- where a line's set begins -/
def baseOf (c : Cfg) (line : Int) : Nat := (c.setOf line * c.ways).toNat
/-- a set's ways -/
def waysFrom (c : Cfg) (a : List Way) (base : Nat) : List Way := (a.drop base).take c.ways.toNat
def waysOf (c : Cfg) (a : List Way) (line : Int) : List Way := if inR line c.lines then waysFrom c a (baseOf c line) else []
def has (line : Int) (w : Way) : Bool := w.there && w.line == line
def placeOf (c : Cfg) (a : List Way) (line : Int) : Option Nat := (waysOf c a line).findIdx? (has line)
def freeOf (c : Cfg) (a : List Way) (line : Int) : Option Nat := (waysOf c a line).findIdx? (fun w => !w.there)
def findWay (c : Cfg) (a : List Way) (line : Int) : Option Way := (waysOf c a line).find? (has line)
def lookWay (c : Cfg) (a : List Way) (line : Int) : Way := (findWay c a line).getD Way.none
def layWay (c : Cfg) (a : List Way) (line : Int) (way : Nat) : List Way := a.set (baseOf c line + way) ⟨0, line, Words.zero, true⟩
def oddWords (c : Cfg) (w : Words) : Bool := (w.l.drop c.words.toNat).any (· != 0)
/-- a line's way is another one -/
def updWay (c : Cfg) (a : List Way) (line : Int) (f : Way → Way) : List Way :=
  match placeOf c a line with
  | Option.none => a
  | some at_ => a.modify (baseOf c line + at_) f
def setWay (c : Cfg) (a : List Way) (line state : Int) (words : Words) : List Way :=
  if state < 0 ∨ 4 < state ∨ oddWords c words then a
  else updWay c a line fun w => { w with state := state, words := if state = 0 then Words.zero else words }
def lockWay (c : Cfg) (a : List Way) (line : Int) (locked : Bool) : List Way := updWay c a line fun w => { w with locked := locked }
def wayAt (c : Cfg) (a : List Way) (set way : Int) : Option Way :=
  if inR set c.sets && inR way c.ways then a[(set * c.ways + way).toNat]? else Option.none

/-! ### mshr -/
structure Miss where
  line : Int
  kind : Int
  needs : Int
  got : Int
  own : Int
  words : Words
  granted : Bool
  owes : Bool
  deriving DecidableEq
def Miss.none : Miss := ⟨0, 0, 0, 0, 0, Words.zero, false, false⟩
instance : Inhabited Miss := ⟨Miss.none⟩
def Miss.new (line kind : Int) : Miss := ⟨line, kind, -1, 0, 0, Words.zero, false, false⟩
def missAt (f : List Miss) (line : Int) : Option Nat := f.findIdx? (fun m => m.line == line)
def missOf (f : List Miss) (line : Int) : Option Miss := f.find? (fun m => m.line == line)
def updMiss (f : List Miss) (line : Int) (g : Miss → Miss) : List Miss :=
  match missAt f line with
  | Option.none => f
  | some i => f.modify i g
def Miss.fits (m : Miss) (acks own : Int) : Bool :=
  if m.needs ≠ -1 ∨ acks < m.got then false
  else if m.kind = 2 then own == 4
  else acks == 0 && (own == 1 || own == 2)
def missData (f : List Miss) (line acks own : Int) (words : Words) : List Miss × Int :=
  match missOf f line with
  | Option.none => (f, 5)
  | some m => if m.fits acks own then (updMiss f line fun m => { m with needs := acks, own := own, words := words }, 0) else (f, 7)
def missGrant (f : List Miss) (line acks : Int) : List Miss × Int :=
  match missData f line acks 4 Words.zero with
  | (f', e) => if e = 0 then (updMiss f' line fun m => { m with granted := true }, 0) else (f', e)
def missAck (f : List Miss) (line : Int) : List Miss × Int :=
  match missOf f line with
  | Option.none => (f, 5)
  | some m => if m.kind = 1 ∨ m.needs = m.got then (f, 7) else (updMiss f line fun m => { m with got := m.got + 1 }, 0)
def missOwe (f : List Miss) (line : Int) : List Miss × Option Miss :=
  match missOf f line with
  | Option.none => (f, Option.none)
  | some m => if m.owes = true ∨ m.needs ≠ m.got then (f, Option.none) else (updMiss f line fun m => { m with owes := true }, some m)
def missOwing (f : List Miss) : Option Int := (f.find? (·.owes)).map (·.line)
def missClose (f : List Miss) (line : Int) : List Miss :=
  match missOf f line with
  | Option.none => f
  | some m => if m.owes then (match missAt f line with | some i => f.eraseIdx i | Option.none => f) else f

/-! ### writeback -/
structure WB where
  line : Int
  words : Words
  live : Bool
  deriving DecidableEq
instance : Inhabited WB := ⟨⟨0, Words.zero, false⟩⟩
def wbAt (b : List WB) (line : Int) : Option Nat := b.findIdx? (fun e => e.line == line)
def wbOf (b : List WB) (line : Int) : Option WB := b.find? (fun e => e.line == line)
def wbPut (c : Cfg) (b : List WB) (line : Int) (words : Words) : List WB × Int :=
  if (wbOf b line).isSome then (b, 6) else if (b.length : Int) = c.writebacks then (b, 4) else (b ++ [⟨line, words, true⟩], 0)
def wbShare (b : List WB) (line : Int) : Words × Int :=
  match wbOf b line with
  | Option.none => (Words.zero, 5)
  | some e => if e.live then (e.words, 0) else (Words.zero, 7)
def wbKill (b : List WB) (line : Int) : List WB :=
  match wbAt b line with
  | Option.none => b
  | some i => b.modify i fun e => { e with live := false }
def wbDrop (b : List WB) (line : Int) : List WB × Int :=
  match wbAt b line with
  | Option.none => (b, 5)
  | some i => (b.eraseIdx i, 0)

/-! ### memory -/
/-- what an operation makes of a word, and what it tells -/
def touch (was : Int) (x : Op) : Int × Int :=
  if x.kind = 2 then (x.value, 0) else if x.kind = 3 then (x.value, was) else (was, was)
def memDo (w : List Int) (x : Op) : List Int × Int × Int :=
  if !x.may || decide ((w.length : Int) ≤ x.addr) then (w, 0, 1)
  else if x.kind = 4 then (w, 0, 0)
  else (w.set x.addr.toNat (touch (w.getD x.addr.toNat 0) x).1, (touch (w.getD x.addr.toNat 0) x).2, 0)
def memLine (c : Cfg) (w : List Int) (line : Int) : Words :=
  ⟨(((w.drop (line * c.words).toNat).take c.words.toNat) ++ List.replicate 8 0).take 8, by simp⟩
def memWrite (c : Cfg) (w : List Int) (line : Int) (words : Words) : List Int :=
  if oddWords c words then w
  else w.take (line * c.words).toNat ++ words.l.take c.words.toNat ++ w.drop ((line * c.words).toNat + c.words.toNat)
def applyOp (c : Cfg) (words : Words) (x : Op) : Words × Int × Int :=
  if !c.ok || !inR x.addr c.size || !x.may || x.kind == 4 then (Words.zero, 0, 1)
  else (words.set (c.wordOf x.addr) (touch (words.get (c.wordOf x.addr)) x).1, (touch (words.get (c.wordOf x.addr)) x).2, 0)

/-! ### sharer, table -/
structure SSet where
  cores : Int
  most : Int
  pointers : List Int
  all : Bool
  deriving DecidableEq, Inhabited
def rising (cores : Int) : Int → List Int → Bool
  | _, [] => true
  | last, p :: l => decide (last < p) && decide (p < cores) && rising cores p l
def SSet.may (s : SSet) : Bool :=
  inC s.cores 1 64 && inC s.most 0 8 && decide ((s.pointers.length : Int) ≤ s.most) && !(s.all && !s.pointers.isEmpty) && rising s.cores (-1) s.pointers
def SSet.new (cores most : Int) : SSet := ⟨cores, most, [], false⟩
def SSet.clear (s : SSet) : SSet := ⟨s.cores, s.most, [], false⟩
def SSet.has (s : SSet) (core : Int) : Bool := if s.all then inR core s.cores else s.pointers.contains core
def insertSorted (n : Int) : List Int → List Int
  | [] => [n]
  | p :: l => if n ≤ p then n :: p :: l else p :: insertSorted n l
def SSet.add (s : SSet) (core : Int) : SSet :=
  if s.has core then s
  else if (s.pointers.length : Int) = s.most then { s with pointers := [], all := true }
  else { s with pointers := insertSorted core s.pointers }
def coreList (n : Int) : List Int := (List.range n.toNat).map Int.ofNat
def SSet.targets (s : SSet) (but : List Int) : List Int := (coreList s.cores).filter fun k => s.has k && !but.contains k

structure Entry where
  owner : Int
  sharers : SSet
  deriving DecidableEq, Inhabited
def Entry.may (e : Entry) : Bool := e.sharers.may && decide (-1 ≤ e.owner) && decide (e.owner < e.sharers.cores)
def Entry.new (c : Cfg) : Entry := ⟨-1, SSet.new c.cores c.pointers⟩
structure Turn where
  entry : Entry
  sent : List Msg
  write : Bool
  deriving DecidableEq, Inhabited

/-- a message of a home, for a request -/
def reply (m : Msg) (kind to who acks own : Int) (words : Words) : Msg := ⟨kind, m.line, m.to, to, who, acks, own, words⟩

/-- table.Next -/
def next (e : Entry) (m : Msg) (words : Words) : Turn × Int :=
  let r := m.frm
  let clear := e.sharers.clear
  if !e.may || !inR r e.sharers.cores then (⟨⟨0, ⟨0, 0, [], false⟩⟩, [], false⟩, 1)
  else if m.kind = 1 then
    if e.owner = r then (⟨⟨0, ⟨0, 0, [], false⟩⟩, [], false⟩, 7)
    else if e.owner ≠ -1 then (⟨⟨e.owner, e.sharers.add r⟩, [reply m 4 e.owner r 0 0 Words.zero], false⟩, 0)
    else if e.sharers.targets [] = [] then (⟨⟨r, clear⟩, [reply m 7 r 0 0 2 words], false⟩, 0)
    else (⟨⟨-1, e.sharers.add r⟩, [reply m 7 r 0 0 1 words], false⟩, 0)
  else if m.kind = 2 then
    let others := e.sharers.targets [r, e.owner]
    let n : Int := others.length
    let first := if e.owner = -1 then reply m 7 r 0 n 4 words else if e.owner = r then reply m 8 r 0 n 0 Words.zero else reply m 5 e.owner r n 0 Words.zero
    (⟨⟨r, clear⟩, first :: others.map (fun k => reply m 6 k r 0 0 Words.zero), false⟩, 0)
  else if m.kind = 3 then
    if e.owner = r then (⟨⟨-1, e.sharers⟩, [reply m 10 r 0 0 0 Words.zero], true⟩, 0)
    else (⟨e, [reply m 10 r 0 0 0 Words.zero], false⟩, 0)
  else (⟨⟨0, ⟨0, 0, [], false⟩⟩, [], false⟩, 1)

/-! ### cache -/
structure Cache where
  c : Cfg
  core : Int
  a : List Way
  f : List Miss
  b : List WB
  deriving DecidableEq, Inhabited
def Cache.new (c : Cfg) (core : Int) : Cache := ⟨c, core, List.replicate (c.sets * c.ways).toNat Way.none, [], []⟩
def Cache.find (k : Cache) (line : Int) : Option Way := findWay k.c k.a line
def Cache.look (k : Cache) (line : Int) : Way := lookWay k.c k.a line
def Cache.home (k : Cache) (kind line : Int) : Msg := ⟨kind, line, k.core, k.c.homeOf line, 0, 0, 0, Words.zero⟩
def canDo (state kind : Int) : Bool := if kind = 1 then state != 0 else state == 2 || state == 4
def Cache.can (k : Cache) (line kind : Int) : Bool := canDo (k.look line).state kind

def Cache.ask (k : Cache) (line kind : Int) : Cache × Msg × Int :=
  if !inR line k.c.lines || (kind != 1 && kind != 2) then (k, Msg.none, 1)
  else if (missOf k.f line).isSome || (wbOf k.b line).isSome || k.can line kind then (k, Msg.none, 6)
  else if (k.f.length : Int) = k.c.mshrs then (k, Msg.none, 4)
  else if (k.find line).isSome then ({ k with a := lockWay k.c k.a line true, f := k.f ++ [Miss.new line kind] }, k.home kind line, 0)
  else match freeOf k.c k.a line with
    | Option.none => (k, Msg.none, 5)
    | some w => ({ k with a := layWay k.c k.a line w, f := k.f ++ [Miss.new line kind] }, k.home kind line, 0)

def Cache.evict (k : Cache) (set way : Int) : Cache × Msg × Bool × Int :=
  match wayAt k.c k.a set way with
  | Option.none => (k, Msg.none, false, 5)
  | some w =>
    if w.state = 0 then (k, Msg.none, false, 5)
    else if w.locked then (k, Msg.none, false, 6)
    else if 2 ≤ w.state then
      match wbPut k.c k.b w.line w.words with
      | (b, e) =>
        if e ≠ 0 then (k, Msg.none, false, 4)
        else ({ k with a := setWay k.c k.a w.line 0 Words.zero, b := b }, { k.home 3 w.line with words := w.words }, true, 0)
    else ({ k with a := setWay k.c k.a w.line 0 Words.zero }, Msg.none, false, 0)

/-- an answer to who asked -/
def Cache.answer (k : Cache) (m : Msg) (kind : Int) : Msg := ⟨kind, m.line, k.core, m.who, 0, 0, 0, Words.zero⟩

def Cache.tell (k : Cache) (m : Msg) (own state : Int) (give : Bool) : Cache × Msg × Bool × Int :=
  let w := k.look m.line
  let said (words : Words) : Msg := { k.answer m 7 with who := 1, own := own, acks := m.acks, words := words }
  if 2 ≤ w.state then ({ k with a := setWay k.c k.a m.line state w.words }, said w.words, true, 0)
  else match wbShare k.b m.line with
    | (words, e) =>
      if e ≠ 0 then (k, Msg.none, false, 7)
      else ({ k with b := if give then wbKill k.b m.line else k.b }, said words, true, 0)

def Cache.inv (k : Cache) (m : Msg) : Cache × Msg × Bool × Int :=
  let w := k.look m.line
  if 2 ≤ w.state then (k, Msg.none, false, 7)
  else ({ k with a := if w.state = 1 then setWay k.c k.a m.line 0 Words.zero else k.a }, k.answer m 9, true, 0)

def Cache.filled (k : Cache) (line e : Int) : Cache × Msg × Bool × Int :=
  if e ≠ 0 then (k, Msg.none, false, 7)
  else match missOwe k.f line with
    | (f, Option.none) => ({ k with f := f }, Msg.none, false, 0)
    | (f, some m) =>
      ({ k with f := f, a := setWay k.c k.a line m.own (if m.granted then (k.look line).words else m.words) }, Msg.none, false, 0)

def Cache.take (k : Cache) (m : Msg) : Cache × Msg × Bool × Int :=
  if !m.may k.c || toHome m.kind || m.to != k.core then (k, Msg.none, false, 1)
  else if m.kind = 4 then k.tell m 1 3 false
  else if m.kind = 5 then k.tell m 4 0 true
  else if m.kind = 6 then k.inv m
  else if m.kind = 7 then
    match missData k.f m.line m.acks m.own m.words with
    | (f, e) => ({ k with f := f }).filled m.line e
  else if m.kind = 8 then
    if (k.look m.line).state ≠ 3 then (k, Msg.none, false, 7)
    else match missGrant k.f m.line m.acks with
      | (f, e) => ({ k with f := f }).filled m.line e
  else if m.kind = 9 then
    match missAck k.f m.line with
    | (f, e) => ({ k with f := f }).filled m.line e
  else match wbDrop k.b m.line with
    | (b, e) => if e ≠ 0 then (k, Msg.none, false, 7) else ({ k with b := b }, Msg.none, false, 0)

def Cache.finish (k : Cache) : Cache × Option Msg :=
  match missOwing k.f with
  | Option.none => (k, Option.none)
  | some line => ({ k with f := missClose k.f line, a := lockWay k.c k.a line false }, some (k.home 11 line))

def opKind (x : Op) : Int := if x.kind = 1 then 1 else 2

def Cache.do (k : Cache) (x : Op) : Cache × Int × Int :=
  let line := if inR x.addr k.c.size then k.c.lineOf x.addr else 0
  let w := k.look line
  match applyOp k.c w.words x with
  | (words, n, e) =>
    if e ≠ 0 then (k, 0, e)
    else if !k.can line (opKind x) then (k, 0, 5)
    else if opKind x = 2 then ({ k with a := setWay k.c k.a line 4 words }, n, 0)
    else (k, n, 0)

/-! ### queue, home -/
structure QE where
  m : Msg
  started : Bool
  sends : List Msg
  deriving DecidableEq
instance : Inhabited QE := ⟨⟨Msg.none, false, []⟩⟩
structure Home where
  c : Cfg
  number : Int
  known : Int → Option Entry
  mem : List Int
  q : List QE
  odd : Int
instance : Inhabited Home := ⟨⟨default, 0, fun _ => Option.none, [], [], 0⟩⟩
def Home.mine (h : Home) (line : Int) : Bool := inR line h.c.lines && h.c.homeOf line == h.number
def Home.new (c : Cfg) (number : Int) : Home :=
  ⟨c, number, fun line => if inR line c.lines && c.homeOf line == number then some (Entry.new c) else Option.none, List.replicate (c.words * c.lines).toNat 0, [], 0⟩
def Home.accept (h : Home) (m : Msg) : Home × Int :=
  if !(m.may h.c && netOf m.kind == 0 && toHome m.kind && m.to == h.number) then (h, 1)
  else if (h.q.length : Int) = h.c.buffer then (h, 4)
  else ({ h with q := h.q ++ [⟨m, false, []⟩] }, 0)
def qReady (q : List QE) (at_ : Nat) : Bool :=
  match q[at_]? with
  | Option.none => false
  | some e => !e.started && !(q.take at_).any (fun x => x.m.line == e.m.line)
def qFinish (q : List QE) (line frm : Int) : List QE × Int :=
  match q.findIdx? (fun e => e.started && e.m.line == line && e.m.frm == frm && e.m.kind != 3 && e.sends.isEmpty) with
  | Option.none => (q, 7)
  | some i => (q.eraseIdx i, 0)
def qSent (q : List QE) (at_ : Nat) : List QE :=
  match q[at_]? with
  | Option.none => q
  | some e => if e.sends.length = 1 ∧ e.m.kind = 3 then q.eraseIdx at_ else q.set at_ { e with sends := e.sends.tail }
def Home.entry (h : Home) (line : Int) : Entry := (h.known line).getD ⟨0, ⟨0, 0, [], false⟩⟩
def Home.start (h : Home) (at_ : Nat) (m : Msg) : Home :=
  match next (h.entry m.line) m (memLine h.c h.mem m.line) with
  | (t, e) =>
    if e ≠ 0 then { h with odd := h.odd + 1, q := h.q.eraseIdx at_ }
    else { h with
      q := h.q.modify at_ fun x => { x with started := true, sends := t.sent }
      known := fun l => if l = m.line then some t.entry else h.known l
      mem := if t.write then memWrite h.c h.mem m.line m.words else h.mem }
/-- told: a message to be sent; was something done? -/
def Home.work (h : Home) (at_ : Int) (left : Nat → Int) : Home × Option Msg × Bool :=
  if at_ < 0 then (h, Option.none, false)
  else match h.q[at_.toNat]? with
  | Option.none => (h, Option.none, false)
  | some e =>
    if qReady h.q at_.toNat then (h.start at_.toNat e.m, Option.none, true)
    else match e.sends with
      | [] => (h, Option.none, false)
      | m :: _ => if left (netOf m.kind).toNat ≤ 0 then (h, Option.none, false) else ({ h with q := qSent h.q at_.toNat }, some m, true)
def Home.done (h : Home) (m : Msg) : Home × Int :=
  if !(m.may h.c && netOf m.kind == 2 && toHome m.kind && m.to == h.number) then (h, 1)
  else match qFinish h.q m.line m.frm with
    | (q, e) => ({ h with q := q }, e)

/-! ### core -/
structure Core where
  l : List Op
  told : List Int
  tried : Int → Bool
instance : Inhabited Core := ⟨⟨[], [], fun _ => false⟩⟩
def Core.new (l : List Op) : Core := ⟨l, [], fun _ => false⟩
def Core.left (k : Core) : Int := k.l.length - k.told.length
def Core.head (k : Core) : Option Op := k.l[k.told.length]?
def Core.commit (k : Core) (n : Int) : Core := { k with told := k.told ++ [n], tried := fun i => if i = k.told.length then false else k.tried i }
def Core.ahead (k : Core) (by_ : Int) : Option Op :=
  if by_ < 1 ∨ 4 < by_ then Option.none
  else match k.l[k.told.length + by_.toNat]? with
    | Option.none => Option.none
    | some x => if x.kind = 4 ∨ k.tried (k.told.length + by_) = true then Option.none else some x
def Core.try (k : Core) (by_ : Int) : Core := { k with tried := fun i => if i = k.told.length + by_ then true else k.tried i }

/-! ### machine -/
structure Commit where
  core : Int
  at_ : Int
  op : Op
  result : Int
  deriving DecidableEq, Inhabited
structure Pick where
  kind : Int
  a : Int
  b : Int
  deriving DecidableEq, Inhabited
structure Machine where
  c : Cfg
  cores : List Core
  caches : List Cache
  homes : List Home
  n0 : List Msg
  n1 : List Msg
  n2 : List Msg
  trace : List Commit
  odd : Int
instance : Inhabited Machine := ⟨⟨default, [], [], [], [], [], [], [], 0⟩⟩
namespace Machine
def net (m : Machine) (n : Nat) : List Msg := match n with | 0 => m.n0 | 1 => m.n1 | _ => m.n2
def setNet (m : Machine) (n : Nat) (l : List Msg) : Machine := match n with | 0 => { m with n0 := l } | 1 => { m with n1 := l } | _ => { m with n2 := l }
def left (m : Machine) (n : Nat) : Int := m.c.room n - (m.net n).length
def core (m : Machine) (i : Int) : Core := m.cores.getD i.toNat default
def cache (m : Machine) (i : Int) : Cache := m.caches.getD i.toNat default
def home (m : Machine) (i : Int) : Home := m.homes.getD i.toNat default
def setCore (m : Machine) (i : Int) (k : Core) : Machine := { m with cores := m.cores.set i.toNat k }
def setCache (m : Machine) (i : Int) (k : Cache) : Machine := { m with caches := m.caches.set i.toNat k }
def setHome (m : Machine) (i : Int) (k : Home) : Machine := { m with homes := m.homes.set i.toNat k }
/-- a message is sent; was it? -/
def send (m : Machine) (x : Msg) : Machine × Bool :=
  if !x.may m.c then (m, false)
  else let n := (netOf x.kind).toNat
    if m.left n = 0 then (m, false) else (m.setNet n (m.net n ++ [x]), true)
def commit (m : Machine) (core : Int) (x : Op) (n : Int) : Machine :=
  let k := m.core core
  { m.setCore core (k.commit n) with trace := m.trace ++ [⟨core, k.told.length, x, n⟩] }
/-- a core's cache does its head -/
def does (m : Machine) (core : Int) (x : Op) : Machine × Bool :=
  match (m.cache core).do x with
  | (k, n, e) => if e ≠ 0 then (m, false) else ((m.setCache core k).commit core x n, true)
def opLine (m : Machine) (x : Op) : Int := if inR x.addr m.c.size then m.c.lineOf x.addr else 0

def act (m : Machine) (core way : Int) : Machine × Bool :=
  let k := m.cache core
  match (if 0 < m.left 2 then k.finish else (k, Option.none)) with
  | (k', some x) => (m.setCache core k').send x
  | (_, Option.none) =>
    match (m.core core).head with
    | Option.none => (m, false)
    | some x =>
      if x.kind = 4 then (if k.f.isEmpty then (m.commit core x 0, true) else (m, false))
      else match m.does core x with
        | (m', true) => (m', true)
        | (_, false) =>
          if m.left 0 = 0 then (m, false)
          else match k.ask (m.opLine x) (opKind x) with
            | (k', y, e) =>
              if e = 0 then (m.setCache core k').send y
              else if e = 5 then
                match k.evict (m.c.setOf (m.opLine x)) (way % m.c.ways) with
                | (k', put, some_, e) =>
                  if e ≠ 0 then (m, false)
                  else if some_ then (m.setCache core k').send put else (m.setCache core k', true)
              else (m, false)

def answered (m : Machine) (x : Msg) : Machine :=
  match (m.cache x.to).take x with
  | (k, y, some_, e) =>
    let m1 := m.setCache x.to k
    let m2 := if e ≠ 0 then { m1 with odd := m1.odd + 1 } else m1
    if some_ then (m2.send y).1 else m2

def deliver (m : Machine) (network at_ : Int) : Machine × Bool :=
  if !inR network 3 || decide (at_ < 0) then (m, false)
  else match (m.net network.toNat)[at_.toNat]? with
  | Option.none => (m, false)
  | some x =>
    if network = 0 then
      match (m.home x.to).accept x with
      | (h, e) => if e ≠ 0 then (m, false) else ({ (m.setHome x.to h) with n0 := m.n0.eraseIdx at_.toNat }, true)
    else if network = 1 then
      if m.left 2 = 0 then (m, false) else (({ m with n1 := m.n1.eraseIdx at_.toNat }).answered x, true)
    else
      let m1 := { m with n2 := m.n2.eraseIdx at_.toNat }
      if x.kind = 11 then
        match (m1.home x.to).done x with
        | (h, e) => let m2 := m1.setHome x.to h; (if e ≠ 0 then { m2 with odd := m2.odd + 1 } else m2, true)
      else
        let m2 := m1.answered x
        match (m2.core x.to).head with
        | some y => if y.kind ≠ 4 ∧ m2.opLine y = x.line then ((m2.does x.to y).1, true) else (m2, true)
        | Option.none => (m2, true)

def work (m : Machine) (number at_ : Int) : Machine × Bool :=
  match (m.home number).work at_ m.left with
  | (h, x, did) =>
    let m1 := m.setHome number h
    match x with
    | some y => ((m1.send y).1, did)
    | Option.none => (m1, did)

def lookAhead (m : Machine) (core by_ : Int) : Machine × Bool :=
  match (m.core core).ahead by_ with
  | Option.none => (m, false)
  | some x =>
    if m.left 0 = 0 then (m, false)
    else match (m.cache core).ask (m.opLine x) (opKind x) with
      | (k, y, e) =>
        if e ≠ 0 then (m, false)
        else ((m.setCache core k).setCore core ((m.core core).try by_)).send y

def pick (m : Machine) (p : Pick) : Machine × Bool :=
  if p.a < 0 ∨ p.b < 0 then (m, false)
  else if p.kind = 1 then m.deliver p.a p.b
  else if p.kind = 2 ∧ p.a < m.homes.length then m.work p.a p.b
  else if p.kind = 0 ∧ p.a < m.cores.length then m.act p.a p.b
  else if p.kind = 3 ∧ p.a < m.cores.length then m.lookAhead p.a (1 + p.b % 4)
  else (m, false)

def new (c : Cfg) (programs : List (List Op)) : Option Machine :=
  if !c.ok || decide ((programs.length : Int) ≠ c.cores) || !programs.all (fits c) then Option.none
  else some ⟨c, programs.map Core.new, (coreList c.cores).map (Cache.new c), (coreList c.homes).map (Home.new c), [], [], [], [], 0⟩
def quiet (m : Machine) : Bool :=
  m.n0.isEmpty && m.n1.isEmpty && m.n2.isEmpty && m.cores.all (fun k => decide (k.left ≤ 0)) &&
  m.caches.all (fun k => k.f.isEmpty && k.b.isEmpty) && m.homes.all (fun h => h.q.isEmpty)
def allOdd (m : Machine) : Int := m.odd + (m.homes.map (·.odd)).sum
end Machine

end Mes
