/-
  What a name, a dependency may be: plain words. No program in sight; no conditions beyond those typed.
-/
import Derived.Test.YtbdankpkdhhlmaaGreatBoxes
import Derived.Lib.SliceRun
import Derived.Lib.SlBy
import Derived.Shelf.Slices.Turned
namespace Go.Proofs.YtbdankpkdhhlmaaGreat
set_option linter.unusedVariables false
set_option linter.unusedSimpArgs false

/-- parentheses close what is open -/
def paren : Nat → List UInt8 → Bool
  | o, [] => o == 0
  | o, c :: l => if c.toNat < 33 ∨ 126 < c.toNat then false else if c = 40 then paren (o + 1) l else if c = 41 then (match o with | 0 => false | o + 1 => paren o l) else paren o l
/-- the comparisons' signs -/
def signsL : List ByteArray := [⟨#[]⟩, ⟨#[60]⟩, ⟨#[61]⟩, ⟨#[60, 61]⟩, ⟨#[62]⟩, ⟨#[60, 62]⟩, ⟨#[62, 61]⟩, ⟨#[60, 61, 62]⟩]
/-- the words between dependencies -/
def wordsL : List ByteArray := [⟨#[]⟩, ⟨#[]⟩, ⟨#[97, 110, 100]⟩, ⟨#[111, 114]⟩, ⟨#[105, 102]⟩, ⟨#[119, 105, 116, 104]⟩, ⟨#[119, 105, 116, 104, 111, 117, 116]⟩]
/-- a name may be -/
def nameB (s : ByteArray) : Bool :=
  decide (s.size ≠ 0) && decide (s.size ≤ 60) && !((bs s).head? == some 40) && !((bs s).head? == some 41) && !(s.toList == [101, 108, 115, 101]) && !Lib.containsS signsL s && !Lib.containsS wordsL s && paren 0 (bs s)

/-- A dependency. -/
inductive DepT where
  | mk (kind : Int) (name : ByteArray) (op : Int) (evr : ByteArray) (n : Nat) (args : Fin n → DepT)
def DepT.kind : DepT → Int
  | .mk k _ _ _ _ _ => k
def formB : DepT → Bool
  | .mk k nm op ev n args =>
    if k = 1 then nameB nm && decide (n = 0) && ((decide (op = 0) && decide (ev.size = 0)) || (decide (1 ≤ op) && decide (op ≤ 7) && (parse (bs ev)).isSome))
    else if k < 2 ∨ 6 < k ∨ nm.size ≠ 0 ∨ op ≠ 0 ∨ ev.size ≠ 0 ∨ n < 2 ∨ (k = 4 ∧ 3 < n) ∨ (k = 6 ∧ 2 < n) then false
    else (List.finRange n).all fun i => (decide (k < 5) || decide ((args i).kind = 1) || decide ((args i).kind = 5) || decide ((args i).kind = 6)) && formB (args i)
/-- The sum of the first n. -/
def upto (f : Nat → Nat) : Nat → Nat
  | 0 => 0
  | n + 1 => upto f n + f n
/-- the names in it, those below a name too -/
def nall : DepT → Nat
  | .mk k _ _ _ n args => (if k = 1 then 1 else 0) + upto (fun j => if h : j < n then nall (args ⟨j, h⟩) else 0) n
/-- the names in it -/
def nparts : DepT → Nat
  | .mk k _ _ _ n args => if k = 1 then 1 else upto (fun j => if h : j < n then nparts (args ⟨j, h⟩) else 0) n
def depCheck (d : DepT) : Int := if formB d = false then 50 else if 16 < (((nparts d : Int) + 9223372036854775808) % 18446744073709551616 - 9223372036854775808) then 51 else 0
end Go.Proofs.YtbdankpkdhhlmaaGreat
