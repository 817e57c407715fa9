/-
  compile in plain words: what the code of a tree is. No condition.
-/
import Derived.Test.YtdnbholiijgedaaCore
namespace Go.Proofs.Ytdnbholiijgedaa
set_option linter.unusedVariables false

/-- An instruction. -/
structure In where
  op : Int
  out : Int
  arg : Int
  set : List Rg
  at_ : Int
/-- What a builder has gathered: instructions; are they too many? -/
abbrev St := List In × Bool
def emitS (x : In) (s : St) : Int × St := if s.2 = true then (0, s) else if s.1.length = 10000 then (0, (s.1, true)) else ((s.1.length : Int), (s.1 ++ [x], false))
def forkI (a b : Int) (lazy : Bool) : In := ⟨3, if lazy = true then b else a, if lazy = true then a else b, [], 0⟩
/-- From the last but one to the first, forks. -/
def forksS : List Int → Int → St → Int × St
  | [], to, s => (to, s)
  | i :: is, to, s => let r := forksS is to s; emitS (forkI i r.1 false) r.2
def setI (s : St) (i : Int) (x : In) : St := if s.2 = true then s else (s.1.set i.toNat x, s.2)
mutual
def codeS (g : Int) : Tr → Int → St → Int × St
  | ⟨op, kids, rune, set, at_, cap, name, mn, mx, lz⟩, to, s =>
    if s.2 = true then (0, s) else
    if op = 1 then emitS ⟨6, 0, 0, [], 0⟩ s else
    if op = 3 then emitS ⟨2, to, 0, [⟨rune, rune⟩], 0⟩ s else
    if op = 4 then emitS ⟨2, to, 0, set, 0⟩ s else
    if op = 5 then emitS ⟨5, to, 0, [], at_⟩ s else
    if op = 6 then (if g < cap then codeH g kids to s else
      let e := emitS ⟨4, to, 2 * cap + 1, [], 0⟩ s
      let i := codeH g kids e.1 e.2
      emitS ⟨4, i.1, 2 * cap, [], 0⟩ i.2) else
    if op = 11 then codeR g kids to s else
    if op = 12 then (let r := codeA g kids to s; forksS r.1.dropLast (r.1.getLastD 0) r.2) else
    if op = 9 then (let i := codeH g kids to s; emitS (forkI i.1 to lz) i.2) else
    if op = 7 ∨ op = 8 then (let e := emitS ⟨3, 0, 0, [], 0⟩ s
      let i := codeH g kids e.1 e.2
      (if op = 7 then e.1 else i.1, setI i.2 e.1 (forkI i.1 to lz))) else (to, s)
/-- The first Kid's. -/
def codeH (g : Int) : List Tr → Int → St → Int × St
  | [], to, s => (0, s)
  | k :: _, to, s => codeS g k to s
/-- The Kids', from behind. -/
def codeR (g : Int) : List Tr → Int → St → Int × St
  | [], to, s => (to, s)
  | k :: ks, to, s => let r := codeR g ks to s; codeS g k r.1 r.2
/-- Each Kid's, all leading to one place. -/
def codeA (g : Int) : List Tr → Int → St → List Int × St
  | [], to, s => ([], s)
  | k :: ks, to, s => let r := codeS g k to s; let q := codeA g ks to r.2; (r.1 :: q.1, q.2)
end
theorem codeS_eq (g : Int) (t : Tr) (to : Int) (s : St) : codeS g t to s =
    if s.2 = true then (0, s) else
    if t.op = 1 then emitS ⟨6, 0, 0, [], 0⟩ s else
    if t.op = 3 then emitS ⟨2, to, 0, [⟨t.rune, t.rune⟩], 0⟩ s else
    if t.op = 4 then emitS ⟨2, to, 0, t.set, 0⟩ s else
    if t.op = 5 then emitS ⟨5, to, 0, [], t.at_⟩ s else
    if t.op = 6 then (if g < t.cap then codeH g t.kids to s else
      let e := emitS ⟨4, to, 2 * t.cap + 1, [], 0⟩ s
      let i := codeH g t.kids e.1 e.2
      emitS ⟨4, i.1, 2 * t.cap, [], 0⟩ i.2) else
    if t.op = 11 then codeR g t.kids to s else
    if t.op = 12 then (let r := codeA g t.kids to s; forksS r.1.dropLast (r.1.getLastD 0) r.2) else
    if t.op = 9 then (let i := codeH g t.kids to s; emitS (forkI i.1 to t.lz) i.2) else
    if t.op = 7 ∨ t.op = 8 then (let e := emitS ⟨3, 0, 0, [], 0⟩ s
      let i := codeH g t.kids e.1 e.2
      (if t.op = 7 then e.1 else i.1, setI i.2 e.1 (forkI i.1 to t.lz))) else (to, s) := by cases t; rw [codeS]
theorem codeH_eq {g : Int} {l : List Tr} {to : Int} {s : St} (h : 0 < l.length) : codeH g l to s = codeS g l[0] to s := by
  cases l with
  | nil => simp at h
  | cons x xs => rw [codeH]; rfl
theorem codeR_drop {g : Int} {l : List Tr} {to : Int} {s : St} {i : Nat} (h : i < l.length) : codeR g (l.drop i) to s = codeS g l[i] (codeR g (l.drop (i + 1)) to s).1 (codeR g (l.drop (i + 1)) to s).2 := by
  rw [List.drop_eq_getElem_cons h, codeR]
theorem codeA_app {g : Int} {to : Int} : ∀ (a b : List Tr) (s : St), codeA g (a ++ b) to s = ((codeA g a to s).1 ++ (codeA g b to (codeA g a to s).2).1, (codeA g b to (codeA g a to s).2).2)
  | [], b, s => by rw [List.nil_append, codeA]; rfl
  | k :: a, b, s => by rw [List.cons_append, codeA, codeA_app a b, codeA]; rfl
theorem codeA_take {g : Int} {l : List Tr} {to : Int} {s : St} {i : Nat} (h : i < l.length) : codeA g (l.take (i + 1)) to s = ((codeA g (l.take i) to s).1 ++ [(codeS g l[i] to (codeA g (l.take i) to s).2).1], (codeS g l[i] to (codeA g (l.take i) to s).2).2) := by
  rw [List.take_succ_eq_append_getElem h, codeA_app, codeA, codeA]
theorem codeA_len {g : Int} {to : Int} : ∀ (l : List Tr) (s : St), (codeA g l to s).1.length = l.length
  | [], s => by rw [codeA]; rfl
  | k :: a, s => by rw [codeA]; simp [codeA_len a]
end Go.Proofs.Ytdnbholiijgedaa
