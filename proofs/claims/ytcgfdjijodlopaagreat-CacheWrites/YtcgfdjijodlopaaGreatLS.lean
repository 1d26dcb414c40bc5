/- A part of proofs about the given program. No condition. -/
import Derived.Test.YtcgfdjijodlopaaGreatModel
set_option linter.all false
/- One line of a machine: what it is, and what must be so of it. -/
namespace Mes

def upd {α : Type} (f : Int → α) (i : Int) (v : α) : Int → α := fun j => if j = i then v else f j
@[simp] theorem upd_same {α : Type} (f : Int → α) (i : Int) (v : α) : upd f i v i = v := by simp [upd]
theorem upd_ne {α : Type} (f : Int → α) {i j : Int} (v : α) (h : j ≠ i) : upd f i v j = f j := by simp [upd, h]
theorem upd_app {α : Type} (f : Int → α) (i j : Int) (v : α) : upd f i v j = if j = i then v else f j := rfl

/-- Constants of a line: its number, its home, how many cores. -/
structure LC where
  c : Cfg
  l : Int
  deriving DecidableEq
def LC.h (C : LC) : Int := C.l % C.c.homes

structure LS where
  st : Int → Int
  wd : Int → Words
  miss : Int → Option Miss
  wb : Int → Option WB
  ent : Entry
  mem : Words
  cur : Option (Int × Int)
  M : List Msg
  req : Int → List Msg
  put : Int → List Msg
  V : Words

section msgs
variable (C : LC)
def mReq (i k : Int) : Msg := ⟨k, C.l, i, C.h, 0, 0, 0, Words.zero⟩
def mPut (i : Int) (w : Words) : Msg := ⟨3, C.l, i, C.h, 0, 0, 0, w⟩
def mFwdS (o r : Int) : Msg := ⟨4, C.l, C.h, o, r, 0, 0, Words.zero⟩
def mFwdM (o r A : Int) : Msg := ⟨5, C.l, C.h, o, r, A, 0, Words.zero⟩
def mInv (j r : Int) : Msg := ⟨6, C.l, C.h, j, r, 0, 0, Words.zero⟩
def mData (frm r who A own : Int) (w : Words) : Msg := ⟨7, C.l, frm, r, who, A, own, w⟩
def mGrant (r A : Int) : Msg := ⟨8, C.l, C.h, r, 0, A, 0, Words.zero⟩
def mAck (j r : Int) : Msg := ⟨9, C.l, j, r, 0, 0, 0, Words.zero⟩
def mPutAck (i : Int) : Msg := ⟨10, C.l, C.h, i, 0, 0, 0, Words.zero⟩
def mDone (r : Int) : Msg := ⟨11, C.l, r, C.h, 0, 0, 0, Words.zero⟩
end msgs

/-- Invalidations, or their acks, on the way: of who asked, but not of its own, nor of another one. -/
def IA (C : LC) (r o : Int) (m : Msg) : Prop := (∃ j, m = mInv C j r ∧ j ≠ r ∧ j ≠ o) ∨ (∃ j, m = mAck C j r ∧ j ≠ r)

def live (s : LS) (o : Int) : Prop := ∃ e p, s.wb o = some e ∧ e.live = true ∧ e.words = s.V ∧ s.put o = [p] ∧ p.kind = 3

/-- who owns the line in truth (-1: nobody), and what others may have -/
structure Shr (s : LS) (o : Int) : Prop where
  own : o ≠ -1 → 2 ≤ s.st o ∨ live s o
  oth : ∀ i, i ≠ o → s.st i ≤ 1
  one : (s.st o = 2 ∨ s.st o = 4) → ∀ j, j ≠ o → s.st j = 0

def Known (s : LS) : Prop := ∀ i, s.st i = 1 → s.ent.sharers.has i = true

inductive Mode (C : LC) (s : LS) : Prop
  | idle (h1 : s.cur = none) (h2 : s.M = []) (h3 : Shr s s.ent.owner) (h4 : Known s) (h5 : s.ent.owner = -1 → s.mem = s.V)
  | fin (r k : Int) (h1 : s.cur = some (r, k)) (h2 : s.M = [mDone C r]) (h3 : Shr s s.ent.owner) (h4 : Known s) (h5 : s.ent.owner = -1 → s.mem = s.V)
  | filled (r k : Int) (μ : Miss) (h1 : s.cur = some (r, k)) (h2 : s.M = []) (h3 : Shr s s.ent.owner) (h4 : Known s) (h5 : s.ent.owner = -1 → s.mem = s.V)
      (h6 : s.miss r = some μ) (h7 : μ.owes = true) (h8 : μ.needs = μ.got) (h9 : μ.kind = k)
  | re (r : Int) (μ : Miss) (h1 : s.cur = some (r, 1)) (h2 : s.M = [mData C C.h r 0 0 2 s.V]) (h3 : ∀ i, s.st i = 0) (h4 : s.ent.owner = r) (hr : r ≠ -1)
      (h6 : s.miss r = some μ) (h7 : μ = Miss.new C.l 1)
  | rs (r f w : Int) (μ : Miss) (h1 : s.cur = some (r, 1)) (h2 : s.M = [mData C f r w 0 1 s.V]) (h3 : Shr s s.ent.owner) (h4 : Known s) (h5 : s.ent.owner = -1 → s.mem = s.V)
      (h6 : s.miss r = some μ) (h7 : μ = Miss.new C.l 1) (h8 : ∀ i, s.st i ≠ 2 ∧ s.st i ≠ 4) (h9 : s.ent.sharers.has r = true) (h10 : s.ent.owner ≠ r)
  | rf (r : Int) (μ : Miss) (h1 : s.cur = some (r, 1)) (h2 : s.M = [mFwdS C s.ent.owner r]) (h3 : Shr s s.ent.owner) (h4 : Known s)
      (h6 : s.miss r = some μ) (h7 : μ = Miss.new C.l 1) (h9 : s.ent.sharers.has r = true) (h10 : s.ent.owner ≠ r) (h11 : s.ent.owner ≠ -1)
  | wf (r o A : Int) (μ : Miss) (L : List Msg) (h1 : s.cur = some (r, 2)) (h2 : s.M.Perm (mFwdM C o r A :: L)) (hL : ∀ m ∈ L, IA C r o m) (h3 : Shr s o)
      (h4 : ∀ i, s.st i = 1 → i = r ∨ mInv C i r ∈ L) (h5 : s.ent.owner = r) (h6 : s.miss r = some μ) (h7 : μ = { Miss.new C.l 2 with got := μ.got })
      (h8 : 0 ≤ μ.got) (h9 : μ.got + L.length = A) (h10 : o ≠ r) (h11 : o ≠ -1) (hr : r ≠ -1) (h12 : ∀ k, s.ent.sharers.has k = false)
  | wd (r f w A : Int) (μ : Miss) (L : List Msg) (h1 : s.cur = some (r, 2)) (h2 : s.M.Perm (mData C f r w A 4 s.V :: L)) (hL : ∀ m ∈ L, IA C r r m) (h3 : ∀ i, s.st i ≤ 1)
      (h4 : ∀ i, s.st i = 1 → i = r ∨ mInv C i r ∈ L) (h5 : s.ent.owner = r) (h6 : s.miss r = some μ) (h7 : μ = { Miss.new C.l 2 with got := μ.got })
      (h8 : 0 ≤ μ.got) (h9 : μ.got + L.length = A) (hr : r ≠ -1) (h12 : ∀ k, s.ent.sharers.has k = false)
  | wg (r A : Int) (μ : Miss) (L : List Msg) (h1 : s.cur = some (r, 2)) (h2 : s.M.Perm (mGrant C r A :: L)) (hL : ∀ m ∈ L, IA C r r m) (h3 : Shr s r)
      (h4 : ∀ i, s.st i = 1 → mInv C i r ∈ L) (h5 : s.ent.owner = r) (h6 : s.miss r = some μ) (h7 : μ = { Miss.new C.l 2 with got := μ.got })
      (h8 : 0 ≤ μ.got) (h9 : μ.got + L.length = A) (h10 : s.st r = 3) (hr : r ≠ -1) (h12 : ∀ k, s.ent.sharers.has k = false)
  | wn (r : Int) (μ : Miss) (h1 : s.cur = some (r, 2)) (hL : ∀ m ∈ s.M, IA C r r m) (h3 : if μ.granted = true then Shr s r ∧ s.st r = 3 else (∀ i, s.st i ≤ 1) ∧ μ.words = s.V)
      (h4 : ∀ i, s.st i = 1 → i = r ∨ mInv C i r ∈ s.M) (h5 : s.ent.owner = r) (h6 : s.miss r = some μ)
      (h7 : μ = { Miss.new C.l 2 with got := μ.got, needs := μ.needs, own := 4, words := μ.words, granted := μ.granted })
      (h8 : 0 ≤ μ.got) (h9 : μ.got + s.M.length = μ.needs) (h10 : s.M ≠ []) (hr : r ≠ -1) (h12 : ∀ k, s.ent.sharers.has k = false)

/-- who is active: asked, and its Done isn't on the way -/
def act? (C : LC) (s : LS) (i : Int) : Prop := (∃ k, s.cur = some (i, k)) ∧ s.M ≠ [mDone C i]

structure Inv (C : LC) (s : LS) : Prop where
  ok : C.c.ok = true
  line : 0 ≤ C.l ∧ C.l < C.c.lines
  st : ∀ i, 0 ≤ s.st i ∧ s.st i ≤ 4
  rng : ∀ i, ¬ (0 ≤ i ∧ i < C.c.cores) → s.st i = 0 ∧ s.miss i = none ∧ s.wb i = none ∧ s.put i = [] ∧ s.req i = []
  buf : ∀ i e, s.wb i = some e → s.st i = 0 ∧ s.miss i = none ∧ ∃ p, s.put i = [p] ∧ (p = mPutAck C i ∨ p = mPut C i e.words)
  nobuf : ∀ i, s.wb i = none → s.put i = []
  wait : ∀ i, ¬ act? C s i → (s.miss i = none ∧ s.req i = []) ∨ (∃ k, (k = 1 ∨ k = 2) ∧ s.miss i = some (Miss.new C.l k) ∧ s.req i = [mReq C i k])
  actv : ∀ i, act? C s i → s.req i = []
  low : ∀ i μ, s.miss i = some μ → μ.owes = false → (μ.kind = 1 → s.st i = 0) ∧ (μ.kind = 2 → s.st i ≠ 2 ∧ s.st i ≠ 4)
  val : ∀ i, s.st i ≠ 0 → s.wd i = s.V
  okV : valuesOk C.c s.V = true
  okW : ∀ i e, s.wb i = some e → valuesOk C.c e.words = true
  okM : valuesOk C.c s.mem = true
  ent : s.ent.may = true ∧ s.ent.sharers.cores = C.c.cores ∧ s.ent.sharers.most = C.c.pointers
  fine : ∀ m ∈ s.M, m.may C.c = true
  mode : Mode C s

end Mes
