/-
  What a name, a dependency may be: plain words. No program in sight; no conditions beyond those typed.
  A dependency's text: its words, how they are read. Plain words; no conditions beyond those typed.
  Dependencies in memory: what a slice of them reads as; what came in; what stays. Helper text; the conditions are those typed.
-/
import Derived.Test.YtjcefgjgjhdbpaaGreatDoorBoxes
import Derived.Lib.SliceRun
import Derived.Lib.SlBy
import Derived.Shelf.Slices.Turned
import Derived.SizedLaws
import Derived.OpenShut
namespace Go.Proofs.YtjcefgjgjhdbpaaGreatDoor
set_option linter.unusedVariables false
set_option linter.unusedSimpArgs false

/-- parentheses close what is open -/
def paren : Nat → List UInt8 → Bool
  | o, [] => o == 0
  | o, c :: l => if c.toNat < 33 ∨ 126 < c.toNat then false else if c = 40 then paren (o + 1) l else if c = 41 then (match o with | 0 => false | o + 1 => paren o l) else paren o l
/-- the comparisons' signs -/
def signsL : List ByteArray := [⟨#[]⟩, ⟨#[60]⟩, ⟨#[61]⟩, ⟨#[60, 61]⟩, ⟨#[62]⟩, ⟨#[60, 62]⟩, ⟨#[62, 61]⟩, ⟨#[60, 61, 62]⟩]
/-- the words between dependencies -/
def wordsL : List ByteArray := [⟨#[]⟩, ⟨#[]⟩, ⟨#[97, 110, 100]⟩, ⟨#[111, 114]⟩, ⟨#[105, 102]⟩, ⟨#[119, 105, 116, 104]⟩, ⟨#[119, 105, 116, 104, 111, 117, 116]⟩]
/-- a name may be -/
def nameB (s : ByteArray) : Bool :=
  decide (s.size ≠ 0) && decide (s.size ≤ 60) && !((bs s).head? == some 40) && !((bs s).head? == some 41) && !(s.toList == [101, 108, 115, 101]) && !Lib.containsS signsL s && !Lib.containsS wordsL s && paren 0 (bs s)

/-- A dependency. -/
inductive DepT where
  | mk (kind : Int) (name : ByteArray) (op : Int) (evr : ByteArray) (n : Nat) (args : Fin n → DepT)
def DepT.kind : DepT → Int
  | .mk k _ _ _ _ _ => k
def formB : DepT → Bool
  | .mk k nm op ev n args =>
    if k = 1 then nameB nm && decide (n = 0) && ((decide (op = 0) && decide (ev.size = 0)) || (decide (1 ≤ op) && decide (op ≤ 7) && (parse (bs ev)).isSome))
    else if k < 2 ∨ 6 < k ∨ nm.size ≠ 0 ∨ op ≠ 0 ∨ ev.size ≠ 0 ∨ n < 2 ∨ (k = 4 ∧ 3 < n) ∨ (k = 6 ∧ 2 < n) then false
    else (List.finRange n).all fun i => (decide (k < 5) || decide ((args i).kind = 1) || decide ((args i).kind = 5) || decide ((args i).kind = 6)) && formB (args i)
/-- The sum of the first n. -/
def upto (f : Nat → Nat) : Nat → Nat
  | 0 => 0
  | n + 1 => upto f n + f n
/-- the names in it, those below a name too -/
def nall : DepT → Nat
  | .mk k _ _ _ n args => (if k = 1 then 1 else 0) + upto (fun j => if h : j < n then nall (args ⟨j, h⟩) else 0) n
/-- the names in it -/
def nparts : DepT → Nat
  | .mk k _ _ _ n args => if k = 1 then 1 else upto (fun j => if h : j < n then nparts (args ⟨j, h⟩) else 0) n
def depCheck (d : DepT) : Int := if formB d = false then 50 else if 16 < (((nparts d : Int) + 9223372036854775808) % 18446744073709551616 - 9223372036854775808) then 51 else 0
end Go.Proofs.YtjcefgjgjhdbpaaGreatDoor
namespace Go.Proofs.YtjcefgjgjhdbpaaGreatDoor
set_option linter.unusedVariables false
set_option linter.unusedSimpArgs false

/-- The length of a word that does not begin with a bracket; brackets that are open. -/
def scanW : Nat → List UInt8 → Nat
  | _, [] => 0
  | o, c :: l => if c = 32 then 0 else if c = 41 ∧ o = 0 then 0 else 1 + scanW (if c = 40 then o + 1 else if c = 41 then o - 1 else o) l
def wordLen : List UInt8 → Nat
  | [] => 0
  | c :: l => if c = 40 ∨ c = 41 then 1 else scanW 0 (c :: l)
theorem wordLen_cons (c : UInt8) (l : List UInt8) : wordLen (c :: l) = if c = 40 ∨ c = 41 then 1 else scanW 0 (c :: l) := rfl
theorem scanW_cons (o : Nat) (c : UInt8) (l : List UInt8) : scanW o (c :: l) = if c = 32 then 0 else if c = 41 ∧ o = 0 then 0 else 1 + scanW (if c = 40 then o + 1 else if c = 41 then o - 1 else o) l := rfl
/-- Without blanks ahead. -/
def trimB : List UInt8 → List UInt8
  | [] => []
  | c :: l => if c = 32 then trimB l else c :: l
theorem trimB_len : ∀ l : List UInt8, (trimB l).length ≤ l.length
  | [] => Nat.le_refl _
  | c :: l => by
    unfold trimB
    split
    · exact Nat.le_trans (trimB_len l) (by simp)
    · exact Nat.le_refl _
theorem trimB_head : ∀ (l : List UInt8) (c : UInt8) (r : List UInt8), trimB l = c :: r → c ≠ 32
  | [], c, r, h => by cases h
  | d :: l, c, r, h => by
    unfold trimB at h
    split at h
    · exact trimB_head l c r h
    · rename_i h1
      injection h with h2 h3
      rw [← h2]
      exact h1
theorem scanW_le : ∀ (o : Nat) (l : List UInt8), scanW o l ≤ l.length
  | _, [] => Nat.le_refl _
  | o, c :: l => by
    unfold scanW
    split
    · exact Nat.zero_le _
    · split
      · exact Nat.zero_le _
      · have := scanW_le (if c = 40 then o + 1 else if c = 41 then o - 1 else o) l
        rw [List.length_cons]
        omega
theorem wordLen_le (l : List UInt8) : wordLen l ≤ l.length := by
  cases l with
  | nil => exact Nat.le_refl _
  | cons c l =>
    rw [wordLen_cons]
    split
    · simp
    · exact scanW_le _ _
theorem wordLen_pos {c : UInt8} {l : List UInt8} (h : c ≠ 32) : 1 ≤ wordLen (c :: l) := by
  rw [wordLen_cons]
  split
  · exact Nat.le_refl _
  · rename_i h2
    rw [scanW_cons]
    rw [if_neg h, if_neg (fun e => h2 (.inr e.1))]
    omega
/-- The words. -/
def wordsF : Nat → List UInt8 → List (List UInt8)
  | 0, _ => []
  | n + 1, l => match trimB l with
    | [] => []
    | c :: t => (c :: t).take (wordLen (c :: t)) :: wordsF n ((c :: t).drop (wordLen (c :: t)))
def wordsB (l : List UInt8) : List (List UInt8) := wordsF (l.length + 1) l
theorem wordsF_more : ∀ (n m : Nat) (l : List UInt8), l.length < n → n ≤ m → wordsF m l = wordsF n l
  | 0, _, _, h, _ => by omega
  | n + 1, 0, _, _, h => by omega
  | n + 1, m + 1, l, h, hm => by
    unfold wordsF
    have h1 := trimB_len l
    split
    · rfl
    · rename_i c t e
      have h2 := trimB_head l c t e
      have h3 := wordLen_pos (l := t) h2
      rw [e] at h1
      have h4 : 1 ≤ (c :: t).length := by simp
      rw [wordsF_more n m _ (by rw [List.length_drop]; omega) (by omega)]
theorem wordsB_nil {l : List UInt8} (h : trimB l = []) : wordsB l = [] := by
  unfold wordsB wordsF
  rw [h]
theorem wordsB_cons {l : List UInt8} {c : UInt8} {t : List UInt8} (h : trimB l = c :: t) : wordsB l = (c :: t).take (wordLen (c :: t)) :: wordsB ((c :: t).drop (wordLen (c :: t))) := by
  unfold wordsB
  rw [wordsF, h]
  simp only
  have h1 := trimB_len l
  have h2 := trimB_head l c t h
  have h3 := wordLen_pos (l := t) h2
  rw [h] at h1
  have h4 : 1 ≤ (c :: t).length := by simp
  rw [wordsF_more (((c :: t).drop (wordLen (c :: t))).length + 1) l.length _ (by omega) (by rw [List.length_drop]; omega)]
theorem wordsB_ne (l : List UInt8) : ∀ w ∈ wordsB l, w ≠ [] := by
  unfold wordsB
  generalize l.length + 1 = n
  induction n generalizing l with
  | zero => intro w h; cases h
  | succ n ih =>
    intro w h
    unfold wordsF at h
    split at h
    · cases h
    · rename_i c t e
      rcases List.mem_cons.1 h with rfl | h
      · have h3 := wordLen_pos (l := t) (trimB_head l c t e)
        intro e2
        have := congrArg List.length e2
        rw [List.length_take] at this
        have := wordLen_le (c :: t)
        simp only [List.length_nil, List.length_cons] at *
        omega
      · exact ih _ w h
theorem wordsB_len : ∀ (n : Nat) (l : List UInt8), l.length ≤ n → (wordsB l).length ≤ l.length
  | n, l, hn => by
    cases e : trimB l with
    | nil => rw [wordsB_nil e]; exact Nat.zero_le _
    | cons c t =>
      have h1 := trimB_len l
      have h2 := trimB_head l c t e
      have h3 := wordLen_pos (l := t) h2
      rw [e] at h1
      cases n with
      | zero =>
        simp only [List.length_cons] at h1
        omega
      | succ n =>
        have ih := wordsB_len n ((c :: t).drop (wordLen (c :: t))) (by rw [List.length_drop]; omega)
        rw [wordsB_cons e, List.length_cons]
        rw [List.length_drop] at ih
        simp only [List.length_cons] at *
        omega

/-! ### how words are read -/
abbrev Wd := List UInt8
def hd (ws : List Wd) : Wd := ws.headD []
def mkB (w : Wd) : ByteArray := ⟨w.toArray⟩
theorem bs_mkB (w : Wd) : bs (mkB w) = w := rfl
theorem mkB_bs (s : ByteArray) : mkB (bs s) = s := rfl
def andW : Wd := [97, 110, 100]
def orW : Wd := [111, 114]
def ifW : Wd := [105, 102]
def withW : Wd := [119, 105, 116, 104]
def woW : Wd := [119, 105, 116, 104, 111, 117, 116]
def elseW : Wd := [101, 108, 115, 101]
/-- The comparison that a word is the sign of. -/
def opOf (w : Wd) : Nat := if w = [60] then 1 else if w = [61] then 2 else if w = [60, 61] then 3 else if w = [62] then 4 else if w = [60, 62] then 5 else if w = [62, 61] then 6 else if w = [60, 61, 62] then 7 else 0
/-- The kind that a word stands for. -/
def kindOf (w : Wd) : Nat := if w = andW then 2 else if w = orW then 3 else if w = ifW then 4 else if w = withW then 5 else if w = woW then 6 else 0
def nodeT (k : Nat) (l : List DepT) : DepT := .mk (k : Int) ⟨#[]⟩ 0 ⟨#[]⟩ l.length (fun i => l[i])
def leafT (w : Wd) (op : Nat) (ev : Wd) : DepT := .mk 1 (mkB w) (op : Int) (mkB ev) 0 (fun i => i.elim0)
def zeroT : DepT := .mk 0 ⟨#[]⟩ 0 ⟨#[]⟩ 0 (fun i => i.elim0)
/-- The arguments behind the first, each behind the same word. -/
def rdMore (f : List Wd → Option (DepT × List Wd)) (k : Wd) : Nat → List DepT → List Wd → Option (List DepT × List Wd)
  | 0, _, _ => none
  | n + 1, acc, ws => if hd ws = k then (if acc.length ≠ 1 ∧ (k = ifW ∨ k = woW) then none else match f ws.tail with
      | none => none
      | some (d, r) => rdMore f k n (acc ++ [d]) r) else some (acc, ws)
/-- The bracket that closes. -/
def rdEnd (k : Wd) (l : List DepT) (ws : List Wd) : Option (DepT × List Wd) := if hd ws = [41] then some (nodeT (kindOf k) l, ws.tail) else none
/-- What may stand behind them. -/
def rdElse (f : List Wd → Option (DepT × List Wd)) (k : Wd) (l : List DepT) (ws : List Wd) : Option (DepT × List Wd) :=
  if k = ifW ∧ hd ws = elseW then (match f ws.tail with
    | none => none
    | some (d, r) => rdEnd k (l ++ [d]) r) else rdEnd k l ws
/-- A name. -/
def rdLeaf (ws : List Wd) : Option (DepT × List Wd) :=
  if nameB (mkB (hd ws)) = false then none
  else if opOf (hd ws.tail) = 0 then some (leafT (hd ws) 0 [], ws.tail)
  else some (leafT (hd ws) (opOf (hd ws.tail)) (hd ws.tail.tail), ws.tail.tail.tail)
/-- A dependency. -/
def rdOne : Nat → List Wd → Option (DepT × List Wd)
  | 0, _ => none
  | n + 1, ws => if hd ws ≠ [40] then rdLeaf ws else match rdOne n ws.tail with
    | none => none
    | some (d, r) => if kindOf (hd r) = 0 then none else match rdMore (rdOne n) (hd r) (n + 1) [d] r with
      | none => none
      | some (l, q) => rdElse (rdOne n) (hd r) l q
/-- A text's dependency, and the error. -/
def depParse (s : ByteArray) : DepT × Int :=
  match rdOne ((wordsB (bs s)).length + 1) (wordsB (bs s)) with
  | none => (zeroT, 50)
  | some (d, ws) => if ws ≠ [] then (zeroT, 50) else if depCheck d ≠ 0 then (zeroT, depCheck d) else (d, 0)

/-! ### what is read is shorter -/
theorem hd_nil : hd [] = [] := rfl
theorem nameB_nil : nameB (mkB []) = false := by kernel_rfl
theorem rdLeaf_suf {ws r : List Wd} {d : DepT} (h : rdLeaf ws = some (d, r)) : r <:+ ws ∧ r.length < ws.length := by
  unfold rdLeaf at h
  cases ws with
  | nil =>
    rw [hd_nil, if_pos nameB_nil] at h
    cases h
  | cons w t =>
    split at h
    · cases h
    · split at h
      · injection h with h
        injection h with _ h
        rw [← h]
        exact ⟨List.tail_suffix _, by simp⟩
      · injection h with h
        injection h with _ h
        rw [← h]
        refine ⟨((List.tail_suffix _).trans (List.tail_suffix _)).trans (List.tail_suffix _), ?_⟩
        simp only [List.tail_cons, List.length_cons, List.length_tail]
        omega
theorem rdMore_suf {f : List Wd → Option (DepT × List Wd)} {k : Wd} (hf : ∀ ws d r, f ws = some (d, r) → r <:+ ws) : ∀ (n : Nat) (acc : List DepT) (ws : List Wd) (l : List DepT) (r : List Wd), rdMore f k n acc ws = some (l, r) → r <:+ ws
  | 0, _, _, _, _, h => by cases h
  | n + 1, acc, ws, l, r, h => by
    unfold rdMore at h
    split at h
    · split at h
      · cases h
      · split at h
        · cases h
        · rename_i d q e
          exact ((rdMore_suf hf n _ _ _ _ h).trans (hf _ _ _ e)).trans (List.tail_suffix _)
    · injection h with h
      injection h with _ h
      rw [← h]
      exact List.suffix_refl _
theorem rdEnd_suf {k : Wd} {l : List DepT} {ws r : List Wd} {d : DepT} (h : rdEnd k l ws = some (d, r)) : r <:+ ws := by
  unfold rdEnd at h
  split at h
  · injection h with h
    injection h with _ h
    rw [← h]
    exact List.tail_suffix _
  · cases h
theorem rdElse_suf {f : List Wd → Option (DepT × List Wd)} {k : Wd} {l : List DepT} {ws r : List Wd} {d : DepT} (hf : ∀ vs d r, f vs = some (d, r) → r <:+ vs) (h : rdElse f k l ws = some (d, r)) : r <:+ ws := by
  unfold rdElse at h
  split at h
  · split at h
    · cases h
    · rename_i e
      exact ((rdEnd_suf h).trans (hf _ _ _ e)).trans (List.tail_suffix _)
  · exact rdEnd_suf h
theorem rdOne_suf : ∀ (n : Nat) (ws : List Wd) (d : DepT) (r : List Wd), rdOne n ws = some (d, r) → r <:+ ws ∧ r.length < ws.length
  | 0, _, _, _, h => by cases h
  | n + 1, ws, d, r, h => by
    unfold rdOne at h
    split at h
    · exact rdLeaf_suf h
    · rename_i h0
      have hlt : ws.tail.length < ws.length := by
        cases ws with
        | nil => exact absurd hd_nil (fun _ => h0 (by rw [hd_nil]; decide))
        | cons w t => simp
      split at h
      · cases h
      · rename_i d1 r1 e1
        split at h
        · cases h
        · split at h
          · cases h
          · rename_i l q e2
            have hf : ∀ vs d r, rdOne n vs = some (d, r) → r <:+ vs := fun vs d r e => (rdOne_suf n vs d r e).1
            have h1 := rdElse_suf hf h
            have h2 := rdMore_suf hf _ _ _ _ _ e2
            have h3 := ((h1.trans h2).trans (hf _ _ _ e1))
            exact ⟨h3.trans (List.tail_suffix _), Nat.lt_of_le_of_lt h3.length_le hlt⟩
end Go.Proofs.YtjcefgjgjhdbpaaGreatDoor
namespace Go.Proofs.YtjcefgjgjhdbpaaGreatDoor
set_option linter.unusedVariables false
set_option linter.unusedSimpArgs false
open Go.ChangeShapes Go.WideShapes Go.RowKit

/-- Cells one behind the other. -/
def CellsAt (w : World) (b o : Nat) (cs : List Value) : Prop := ∀ j v, cs[j]? = some v → w.cell? ⟨b, o + j, none⟩ = some v

/-- The five cells read as the dependency; its lists lie in blocks of S. -/
def DepC (w : World) (S : Nat → Prop) : DepT → List Value → Prop
  | .mk k nm op ev n args, cs => ∃ a c, cs = [.int .i64 k, .string nm, .int .i64 op, .string ev, .slice a n c] ∧ (Lit.int .i64 k).wf = true ∧ nm.size ≤ maxLen ∧ ev.size ≤ maxLen ∧ n * 72 ≤ 140737488355328 ∧
      (n ≠ 0 → ∃ b off, a = some ⟨b, off, none⟩ ∧ S b ∧ ∀ i : Fin n, ∃ cs', DepC w S (args i) cs' ∧ CellsAt w b (off + i * 5) cs')
/-- The slice value reads as these dependencies. -/
def DepsV (w : World) (S : Nat → Prop) (n : Nat) (args : Fin n → DepT) (v : Value) : Prop := ∃ a c, v = .slice a n c ∧ n * 72 ≤ 140737488355328 ∧
      (n ≠ 0 → ∃ b off, a = some ⟨b, off, none⟩ ∧ S b ∧ ∀ i : Fin n, ∃ cs', DepC w S (args i) cs' ∧ CellsAt w b (off + i * 5) cs')
theorem depC_iff {w : World} {S : Nat → Prop} {k : Int} {nm : ByteArray} {op : Int} {ev : ByteArray} {n : Nat} {args : Fin n → DepT} {cs : List Value} :
    DepC w S (.mk k nm op ev n args) cs ↔ ∃ v, cs = [.int .i64 k, .string nm, .int .i64 op, .string ev, v] ∧ (Lit.int .i64 k).wf = true ∧ nm.size ≤ maxLen ∧ ev.size ≤ maxLen ∧ DepsV w S n args v := by
  constructor
  · rintro ⟨a, c, h1, hk, h2, h3, h4, h5⟩
    exact ⟨_, h1, hk, h2, h3, a, c, rfl, h4, h5⟩
  · rintro ⟨v, h1, hk, h2, h3, a, c, rfl, h4, h5⟩
    exact ⟨a, c, h1, hk, h2, h3, h4, h5⟩

theorem CellsAt.keep {w w' : World} {b o : Nat} {cs : List Value} (h : CellsAt w b o cs) (hb : w'.heap[b]? = w.heap[b]?) : CellsAt w' b o cs := by
  intro j v hj
  have := h j v hj
  unfold World.cell? at *
  simp only [hb]
  exact this

/-- What lies in blocks that stay, stays. -/
theorem DepC.keep {w w' : World} {S S' : Nat → Prop} (hS : ∀ b, S b → S' b) (hk : ∀ b, S b → b < w.heap.size → w'.heap[b]? = w.heap[b]?) : ∀ {d : DepT} {cs : List Value}, (∀ u ∈ cs, True) → DepC w S d cs → DepC w' S' d cs
  | .mk k nm op ev n args, cs, _, h => by
    obtain ⟨a, c, h1, hw, h2, h3, h4, h5⟩ := h
    refine ⟨a, c, h1, hw, h2, h3, h4, fun hn => ?_⟩
    obtain ⟨b, off, e, hs, hi⟩ := h5 hn
    have hb : w'.heap[b]? = w.heap[b]? := by
      refine hk b hs ?_
      obtain ⟨cs', hc, ha⟩ := hi ⟨0, Nat.pos_of_ne_zero hn⟩
      generalize args ⟨0, Nat.pos_of_ne_zero hn⟩ = d at hc
      cases d with
      | mk k nm op ev n args =>
        obtain ⟨a, c, rfl, _⟩ := hc
        exact World.block_lt_of_cell? w _ (ha 0 _ rfl)
    refine ⟨b, off, e, hS b hs, fun i => ?_⟩
    obtain ⟨cs', hc, ha⟩ := hi i
    exact ⟨cs', DepC.keep hS hk (fun _ _ => trivial) hc, ha.keep hb⟩
theorem DepC.len {w : World} {S : Nat → Prop} {d : DepT} {cs : List Value} (h : DepC w S d cs) : cs.length = 5 := by
  cases d with
  | mk k nm op ev n args =>
    obtain ⟨a, c, rfl, _⟩ := h
    rfl
theorem DepsV.keep {w w' : World} {S S' : Nat → Prop} (hS : ∀ b, S b → S' b) (hk : ∀ b, S b → b < w.heap.size → w'.heap[b]? = w.heap[b]?) {n : Nat} {args : Fin n → DepT} {v : Value} (h : DepsV w S n args v) : DepsV w' S' n args v := by
  have h' : DepC w S (.mk 0 ⟨#[]⟩ 0 ⟨#[]⟩ n args) [.int .i64 0, .string ⟨#[]⟩, .int .i64 0, .string ⟨#[]⟩, v] := depC_iff.2 ⟨v, rfl, by decide, by decide, by decide, h⟩
  obtain ⟨v', e, _, _, _, r⟩ := depC_iff.1 (h'.keep hS hk (fun _ _ => trivial))
  simp only [List.cons.injEq, true_and, and_true] at e
  subst e
  exact r

theorem spot_none {w : World} {a : Addr} {v : Value} {i : Nat} (h : w.cell? (a.add i) = some v) (hi : i = 0) : ∃ b off, a = ⟨b, off, none⟩ ∧ b < w.heap.size := by
  subst hi
  obtain ⟨b, off, spot⟩ := a
  have hspot : spot = none := by simpa [Addr.add] using World.cell?_spot h
  subst hspot
  have hb : b < w.heap.size := by
    have := World.block_lt_of_cell? w _ h
    simpa [Addr.add] using this
  exact ⟨b, off, rfl, hb⟩
theorem addr_add {b off i : Nat} : (⟨b, off, none⟩ : Addr).add i = ⟨b, off + i, none⟩ := by
  unfold Addr.add
  split
  · rename_i h; subst h; rfl
  · rfl

/-- The weights of one of many. -/
theorem weights_all {H : Type} {P : Program} {e : TypeId} : ∀ {ds : List (DataW H)} {d : DataW H}, d ∈ ds → ∀ n ∈ d.weights P e, n ∈ DataW.weightsAll P e ds
  | d0 :: ds, d, hd, n, hn => by
    rw [DataW.weightsAll, List.mem_append]
    rcases List.mem_cons.1 hd with rfl | h
    · exact .inl hn
    · exact .inr (weights_all h n hn)

section
variable {H : Type} {enc : TypeId × Value → H} {w : World} {sp : Nat → Bool} {held : Bool}
theorem five {α : Type} {l : List α} (h : l.length = 5) : ∃ a b c d e, l = [a, b, c, d, e] := by
  match l, h with
  | [a, b, c, d, e], _ => exact ⟨a, b, c, d, e, rfl⟩
theorem cells85 : Tryz.prog.cellsOf 73 = 5 := by kernel_rfl
theorem bytes85 : Tryz.prog.bytesOf 73 = 72 := by kernel_rfl
theorem cells3 : Tryz.prog.cellsOf 3 = 1 := by kernel_rfl
theorem cells9 : Tryz.prog.cellsOf 9 = 1 := by kernel_rfl
theorem cells23 : Tryz.prog.cellsOf 33 = 1 := by kernel_rfl

/-- A slice of dependencies that came in. -/
theorem open_deps : ∀ (fuel : Nat) (v : Value) (x : DataW H × List MemPlace), DataW.trod enc Tryz.prog w 0 sp held fuel 33 [v] = some x → (∀ z ∈ x.1.weights Tryz.prog 33, z ≤ reachBytes) →
    ∃ n args, DepsV w (· < w.heap.size) n args v := by
  intro fuel
  induction fuel using Nat.strongRecOn with
  | ind fuel IH =>
    intro v x h hz
    rcases DataW.trod_slice Tryz.underlying33 h with ⟨e, _⟩ | ⟨a, len, cap, elems, rest, m, hf, hcs, hx, _, hl, hm, hle, he, _, _⟩
    · simp only [List.cons.injEq, and_true] at e
      subst e
      exact ⟨0, fun i => i.elim0, none, 0, rfl, by omega, fun h => absurd rfl h⟩
    · simp only [List.cons.injEq, and_true] at hcs
      subst hcs
      subst hf
      have hw1 : (elems.length + rest.length) * 72 ≤ reachBytes := by
        have := hz ((elems.length + rest.length) * Tryz.prog.bytesOf 73) (by rw [hx]; simp [DataW.weights, Tryz.underlying33])
        rwa [bytes85] at this
      have hbulk : len * 72 ≤ 140737488355328 := by
        have : reachBytes = 140737488351232 := rfl
        omega
      have hone : ∀ i, i < len → ∃ d cs, DepC w (· < w.heap.size) d cs ∧ ∀ j u, cs[j]? = some u → w.cell? (a.add (i * 5 + j)) = some u := by
        intro i hi
        have h1 := he i hi
        rw [cells85] at h1
        have hel : i < elems.length := by omega
        rw [List.getElem?_eq_getElem hel] at h1
        cases hc : w.cells? 0 (a.add (i * 5)) 5 with
        | none => rw [hc] at h1; cases h1
        | some cs =>
          rw [hc] at h1
          replace h1 : DataW.trod enc Tryz.prog w 0 sp held m 73 cs = some elems[i] := h1
          obtain ⟨_, hlen, hcell⟩ := World.cells?_some hc
          obtain ⟨xs, m', hm', hx', hcl, hxl, hfs⟩ := DataW.trod_struct Tryz.underlying73 h1
          obtain ⟨c0, c1, c2, c3, c4, rfl⟩ := five hlen
          obtain ⟨x0, x1, x2, x3, x4, rfl⟩ := five (hxl.trans rfl)
          have f0 : DataW.trod enc Tryz.prog w 0 sp held m' 3 ((([c0, c1, c2, c3, c4] : List Value).drop 0).take (Tryz.prog.cellsOf 3)) = some x0 := hfs 0 _ rfl
          rw [cells3] at f0
          replace f0 : DataW.trod enc Tryz.prog w 0 sp held m' 3 [c0] = some x0 := f0
          have f1 : DataW.trod enc Tryz.prog w 0 sp held m' 9 ((([c0, c1, c2, c3, c4] : List Value).drop 1).take (Tryz.prog.cellsOf 9)) = some x1 := hfs 1 _ rfl
          rw [cells9] at f1
          replace f1 : DataW.trod enc Tryz.prog w 0 sp held m' 9 [c1] = some x1 := f1
          have f2 : DataW.trod enc Tryz.prog w 0 sp held m' 3 ((([c0, c1, c2, c3, c4] : List Value).drop 2).take (Tryz.prog.cellsOf 3)) = some x2 := hfs 2 _ rfl
          rw [cells3] at f2
          replace f2 : DataW.trod enc Tryz.prog w 0 sp held m' 3 [c2] = some x2 := f2
          have f3 : DataW.trod enc Tryz.prog w 0 sp held m' 9 ((([c0, c1, c2, c3, c4] : List Value).drop 3).take (Tryz.prog.cellsOf 9)) = some x3 := hfs 3 _ rfl
          rw [cells9] at f3
          replace f3 : DataW.trod enc Tryz.prog w 0 sp held m' 9 [c3] = some x3 := f3
          have f4 : DataW.trod enc Tryz.prog w 0 sp held m' 33 ((([c0, c1, c2, c3, c4] : List Value).drop 4).take (Tryz.prog.cellsOf 33)) = some x4 := hfs 4 _ rfl
          rw [cells23] at f4
          replace f4 : DataW.trod enc Tryz.prog w 0 sp held m' 33 [c4] = some x4 := f4
          obtain ⟨k, e0, _, wk⟩ := DataW.trod_int Tryz.underlying3 f0
          obtain ⟨nm, e1, _, s1⟩ := DataW.trod_string Tryz.underlying9 f1
          obtain ⟨op, e2, _, _⟩ := DataW.trod_int Tryz.underlying3 f2
          obtain ⟨ev, e3, _, s3⟩ := DataW.trod_string Tryz.underlying9 f3
          simp only [List.cons.injEq, and_true] at e0 e1 e2 e3
          subst e0 e1 e2 e3
          have hz4 : ∀ z ∈ x4.1.weights Tryz.prog 33, z ≤ reachBytes := by
            intro z hz4
            refine hz z ?_
            rw [hx]
            simp only [DataW.weights, Tryz.underlying33, List.mem_cons, List.mem_append]
            right; left
            have hin : elems[i].1 ∈ elems.map (·.1) := List.mem_map_of_mem (List.getElem_mem hel)
            refine weights_all hin z ?_
            rw [hx']
            simp only [DataW.weights, Tryz.underlying73]
            refine DataW.weights_mem_each (j := 4) (t := 33) (d := x4.1) ?_ ?_ z hz4
            · rfl
            · rfl
          obtain ⟨n', args', hd⟩ := IH m' (by omega) _ _ f4 hz4
          refine ⟨.mk k nm op ev n' args', _, depC_iff.2 ⟨c4, rfl, wk, s1, s3, hd⟩, fun j u hj => ?_⟩
          have hj5 : j < 5 := by
            have := (List.getElem?_eq_some_iff.1 hj).1
            simpa using this
          have := hcell j hj5
          rw [hj] at this
          rw [← this, Addr.add_add]
      by_cases h0 : len = 0
      · subst h0
        exact ⟨0, fun i => i.elim0, some a, cap, rfl, by omega, fun h => absurd rfl h⟩
      · have hex : ∀ i : Fin len, ∃ d, ∃ cs, DepC w (· < w.heap.size) d cs ∧ ∀ j u, cs[j]? = some u → w.cell? (a.add (i * 5 + j)) = some u := fun i => hone i i.2
        obtain ⟨b, off, ea, hb⟩ : ∃ b off, a = ⟨b, off, none⟩ ∧ b < w.heap.size := by
          obtain ⟨d, cs, hd, hc⟩ := hone 0 (by omega)
          have hl5 := hd.len
          match cs, hl5 with
          | c0 :: cs, _ => exact spot_none (hc 0 c0 rfl) (by omega)
        subst ea
        refine ⟨len, fun i => Classical.choose (hex i), some ⟨b, off, none⟩, cap, rfl, hbulk, fun _ => ⟨b, off, rfl, hb, fun i => ?_⟩⟩
        obtain ⟨cs, hd, hc⟩ := Classical.choose_spec (hex i)
        refine ⟨cs, hd, fun j u hj => ?_⟩
        have := hc j u hj
        rw [addr_add] at this
        rwa [Nat.add_assoc]
end
end Go.Proofs.YtjcefgjgjhdbpaaGreatDoor
