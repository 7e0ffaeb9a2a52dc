/-
  Packages of a text of tags: how lines are read. Plain words; no conditions beyond those typed.
-/
import Derived.Test.YtjcefgjgjhdbpaaGreatDoorDepMem
import Derived.Test.YtjcefgjgjhdbpaaGreatDoorChkD
namespace Go.Proofs.YtjcefgjgjhdbpaaGreatDoor
set_option linter.unusedVariables false
set_option linter.unusedSimpArgs false

def layB (c : UInt8) : Bool := c == 32 || c == 9
/-- Without layout at its ends. -/
def trimT (l : List UInt8) : List UInt8 := (l.reverse.dropWhile layB).reverse.dropWhile layB
/-- A tag, and what stands behind its colon. -/
def tagScan : List UInt8 → Option (List UInt8 × List UInt8)
  | [] => none
  | c :: l => if layB c = true then none else if c = 58 then some ([], l) else (tagScan l).map fun x => (c :: x.1, x.2)
def tagOf (s : List UInt8) : Option (List UInt8 × List UInt8) :=
  match tagScan (s.drop 1) with
  | none => none
  | some (a, b) => if a = [] then none else some (a, b)
/-- Lines. -/
def lineOf (l : List UInt8) : List UInt8 := l.takeWhile (· != 10)
def restOf (l : List UInt8) : List UInt8 := (l.dropWhile (· != 10)).drop 1
def linesF : Nat → List UInt8 → List (List UInt8)
  | 0, _ => []
  | n + 1, l => if l = [] then [] else lineOf l :: linesF n (restOf l)
def linesB (l : List UInt8) : List (List UInt8) := linesF l.length l
theorem restOf_len (c : UInt8) (l : List UInt8) : (restOf (c :: l)).length ≤ l.length := by
  unfold restOf
  rw [List.length_drop]
  have h : ((c :: l).dropWhile (· != 10)).length ≤ (c :: l).length := (List.dropWhile_suffix _).length_le
  rw [List.length_cons] at h
  omega
theorem linesF_more : ∀ (n m : Nat) (l : List UInt8), l.length ≤ n → n ≤ m → linesF m l = linesF n l
  | 0, 0, _, _, _ => rfl
  | 0, m + 1, l, h, _ => by
    have : l = [] := List.length_eq_zero_iff.1 (by omega)
    subst this
    rfl
  | n + 1, 0, _, _, h => by omega
  | n + 1, m + 1, l, h, hm => by
    cases l with
    | nil => rfl
    | cons c l =>
      unfold linesF
      rw [if_neg (by simp), if_neg (by simp)]
      have h1 := restOf_len c l
      rw [List.length_cons] at h
      rw [linesF_more n m _ (by omega) (by omega)]
theorem linesB_nil : linesB [] = [] := rfl
theorem linesB_cons {l : List UInt8} (h : l ≠ []) : linesB l = lineOf l :: linesB (restOf l) := by
  cases l with
  | nil => exact absurd rfl h
  | cons c l =>
    unfold linesB
    rw [List.length_cons, linesF, if_neg h]
    rw [linesF_more (restOf (c :: l)).length l.length _ (Nat.le_refl _) (restOf_len c l)]

/-- A package that is read. -/
structure SP where
  name : ByteArray
  evr : ByteArray
  arch : ByteArray
  vendor : ByteArray
  L : Fin 7 → List DepT
  files : List ByteArray
def SP.pkg (p : SP) : PkgT := ⟨p.name, p.evr, p.arch, p.vendor, fun i => (p.L i).length, fun i j => (p.L i)[j], p.files⟩
structure SSt where
  out : List PkgT
  cur : Option SP
inductive SRes where
  | err (e : Int)
  | ok (st : SSt)
/-- The package that is read is whole. -/
def wholeS (st : SSt) : List PkgT × Int :=
  match st.cur with
  | none => (st.out, 0)
  | some p => if pkgCheck p.pkg = 0 then (st.out ++ [p.pkg], 0) else (st.out, pkgCheck p.pkg)
/-- The parts of a text between the bytes c. -/
def splitC (c : UInt8) : List UInt8 → List (List UInt8)
  | [] => [[]]
  | x :: l => if x = c then [] :: splitC c l else match splitC c l with
    | [] => [[x]]
    | h :: t => (x :: h) :: t
/-- The words of a value. -/
def fieldsS (l : List UInt8) : List (List UInt8) := (splitC 32 l).filter fun w => !w.isEmpty
def newSP (a b c d : List UInt8) : SP := ⟨mkB a, mkB (if c = [45] then b else b ++ 45 :: c), mkB d, ⟨#[]⟩, fun _ => [], []⟩
def packS (st : SSt) (v : List UInt8) : SRes :=
  if (wholeS st).2 ≠ 0 then .err (wholeS st).2 else if 200 ≤ (wholeS st).1.length then .err 131 else
    match fieldsS v with
    | [a, b, c, d] => .ok ⟨(wholeS st).1, some (newSP a b c d)⟩
    | _ => .err 130
def pkgW : Wd := [80, 107, 103]
def vndW : Wd := [86, 110, 100]
def flsW : Wd := [70, 108, 115]
def verW : Wd := [86, 101, 114]
def tagsW : List Wd := [[80, 114, 118], [82, 101, 113], [80, 114, 113], [67, 111, 110], [79, 98, 115], [82, 101, 99], [83, 117, 112]]
/-- The list that a tag tells. -/
def listOf (t : Wd) : Option (Fin 7) :=
  if t = [80, 114, 118] then some 0 else if t = [82, 101, 113] then some 1 else if t = [80, 114, 113] then some 2 else if t = [67, 111, 110] then some 3
  else if t = [79, 98, 115] then some 4 else if t = [82, 101, 99] then some 5 else if t = [83, 117, 112] then some 6 else none
def SP.add (p : SP) (j : Fin 7) (d : DepT) : SP := { p with L := fun i => if i = j then p.L i ++ [d] else p.L i }
def putP (p : SP) (t v : Wd) : Option SP :=
  if t = vndW then some { p with vendor := mkB v }
  else if t = flsW then some { p with files := p.files ++ [mkB (trimT v)] }
  else match listOf t with
    | none => some p
    | some j => if (depParse (mkB v)).2 ≠ 0 then none else some (p.add j (depParse (mkB v)).1)
def putS (st : SSt) (t v : Wd) : SRes :=
  match st.cur with
  | none => .ok st
  | some p => match putP p t v with
    | none => .err 130
    | some q => .ok ⟨st.out, some q⟩
def strip1 : Wd → Wd
  | c :: r => if c = 32 then r else c :: r
  | [] => []
def oneS (st : SSt) (t rest : Wd) : SRes :=
  if t = pkgW then packS st (strip1 rest)
  else match st.cur with
    | none => if t = verW then .ok st else .err 130
    | some _ => putS st t (strip1 rest)
/-- Does a line close a block? -/
def closesB (s t : Wd) : Bool :=
  match s.head?, tagOf s with
  | some 45, some (n, b) => n == t && trimT b == []
  | _, _ => false
def endS (st : SSt) : List PkgT × Int := if (wholeS st).2 ≠ 0 then ([], (wholeS st).2) else ((wholeS st).1, 0)
/-- What a line does: an error, or where the reading goes on. -/
inductive SGo where
  | err (e : Int)
  | go (m : Option Wd) (st : SSt)
def goR (m : Option Wd) : SRes → SGo
  | .err e => .err e
  | .ok st => .go m st
def stepN (s : Wd) (st : SSt) : SGo :=
  if trimT s = [] ∨ s.head? = some 35 then .go none st
  else match tagOf s with
    | none => .err 130
    | some (t, rest) =>
      if s.head? = some 61 then goR none (oneS st t rest)
      else if s.head? = some 43 ∧ trimT rest = [] ∧ st.cur.isSome = true then .go (some t) st
      else .err 130
def stepB (t s : Wd) (st : SSt) : SGo :=
  if closesB s t = true then .go none st
  else if trimT s = [] then .go (some t) st
  else goR (some t) (putS st t s)
def stepS : Option Wd → Wd → SSt → SGo
  | none, s, st => stepN s st
  | some t, s, st => stepB t s st
/-- Lines, outside of blocks or in one. -/
def runS : Option Wd → List Wd → SSt → List PkgT × Int
  | none, [], st => endS st
  | some _, [], _ => ([], 130)
  | m, s :: l, st => match stepS m s st with
    | .err e => ([], e)
    | .go m' st' => runS m' l st'
theorem runS_cons (m : Option Wd) (s : Wd) (l : List Wd) (st : SSt) : runS m (s :: l) st = match stepS m s st with
    | .err e => ([], e)
    | .go m' st' => runS m' l st' := by cases m <;> rfl
/-- Lines, and where the reading stands behind them. -/
def runL : Option Wd → List Wd → SSt → SGo
  | m, [], st => .go m st
  | m, s :: l, st => match stepS m s st with
    | .err e => .err e
    | .go m' st' => runL m' l st'
theorem runS_append : ∀ (a b : List Wd) (m : Option Wd) (st : SSt), runS m (a ++ b) st = match runL m a st with
    | .err e => ([], e)
    | .go m' st' => runS m' b st'
  | [], b, m, st => rfl
  | s :: a, b, m, st => by
    rw [List.cons_append, runS_cons, runL]
    cases stepS m s st with
    | err e => rfl
    | go m' st' => exact runS_append a b m' st'
/-- A text's packages, and the error. -/
def suseParse (s : ByteArray) : List PkgT × Int := if 40000 < s.size then ([], 132) else runS none (linesB (bs s)) ⟨[], none⟩
end Go.Proofs.YtjcefgjgjhdbpaaGreatDoor
