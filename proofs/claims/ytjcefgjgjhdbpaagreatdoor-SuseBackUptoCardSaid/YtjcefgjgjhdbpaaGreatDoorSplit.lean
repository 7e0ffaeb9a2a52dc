/-
  A range over an iterator that keeps its own state in one block of cells. Helper text; the conditions are those typed.
  strings.SplitSeq at a text of one byte: the iterator's contract. Helper text; the conditions are those typed.
-/
import Derived.RangeFuncFrom
import Derived.RangeFuncCalls
import Derived.RangeFuncLeaves
import Derived.RangeFuncNested
import Derived.RangeFuncBound
import Derived.Shelf.Abstract
import Derived.Shelf.RegionOpen
import Derived.WalkKit
import Derived.OwnWalkIn
import Derived.TacticsInMore
import Derived.LoopNIn
import Derived.LoopIn
import Derived.Test.YtjcefgjgjhdbpaaGreatDoorShelf
import Derived.Test.YtjcefgjgjhdbpaaGreatDoorListF
namespace Go.Proofs.YtjcefgjgjhdbpaaGreatDoor
open Go.RowKit

/-- The contract of an iterator whose state lies in the block b: it writes there, a round keeps it. -/
def SeqS {α : Type} (F : Fence) (n : Nat) (P : Program) (g : Nat) (lb : Array Value) (encs : α → Array Value) (b : Nat) (Kb : Nat → Prop) (S Sp : List α → Prop) (N : Nat) (w : World) : Prop :=
  ∀ (l : Nat) (J Jx : List α → World → Prop) (W : World), Below w.heap.size w W → AbidesFrom W.heap.size J → AbidesFrom W.heap.size Jx →
    (∀ s W1 v, J s W1 → J s (W1.setCell ⟨b, 0, none⟩ v)) →
    (∀ pre x W1, J pre W1 → pre.length < N → YieldAt F (n - 1) P l (encs x) W1 fun e W' =>
      (e = .returned (.bool true) ∧ J (pre ++ [x]) W' ∧ ∀ k, Kb k → W'.heap[k]? = W1.heap[k]?) ∨ (e = .returned (.bool false) ∧ Jx (pre ++ [x]) W')) →
    J [] W →
    CallsIn F n P g (#[.func (.yield l) #[] #[]] ++ lb) W fun e W' => (∃ v, e = .returned v) ∧ ((∃ xs, S xs ∧ J xs W') ∨ (∃ pre, Sp pre ∧ Jx pre W'))

theorem setCell_else (W : World) (b k : Nat) (v : Value) {o : Obj} (h : W.heap[k]? = some o) (ho : o.isCells = false) : (W.setCell ⟨b, 0, none⟩ v).heap[k]? = some o :=
  (KeepsOthers.setCell W ⟨b, 0, none⟩ v).same k o h ho

variable {F : Fence} {n : Nat} {P : Program}

/-- The caller's law. -/
theorem rangeS {α : Type} {g : Operand} {ps : Array Tmp} {assign body : Code} {Q : Exit → Act → World → Prop} {a : Act} {w : World}
    (hro : F.round = none) (h1 : 1 ≤ n) {gf : Nat} {lb : Array Value} (hg : a.eval g = .func (.func gf) #[] lb) (hFg : F.fn gf) (eg : ∀ args w, (callFunc gf args).run P w = .ok (.enter gf args) w)
    {encs : α → Array Value} {b : Nat} {Kb : Nat → Prop} (hbw : ∀ k, Kb k → k < w.heap.size) {S Sp : List α → Prop} {N : Nat} {w0 : World} (hseq : SeqS F (n - 1) P gf lb encs b Kb S Sp N w0) (hb0 : Below w0.heap.size w0 w) (hps : ∀ x, (encs x).size = ps.size)
    (I : List α → World → Prop) (Ix : Code → List α → World → Prop) (hI : OwnFrom w.heap.size I) (hIx : ∀ c, OwnFrom w.heap.size (Ix c)) (hIs : ∀ s W v, I s W → I s (W.setCell ⟨b, 0, none⟩ v)) (h0 : I [] w) (a₁ : α → Act)
    (hassign : ∀ (l : Nat) (x : α) (W : World) (K : Act → World → Prop), K (a₁ x) W →
      assign.wpIn (F.inRound l) (n - 1 - 1) P (Exit.then K (fun _ _ _ => False)) { tmps := (ps.zip (encs x)).foldl (fun t (p, v) => t.setIfInBounds p v) a.tmps, defers := [] } W)
    (hbody : ∀ (l : Nat) (pre : List α) (x : α) (W : World), I pre W → pre.length < N → body.wpIn (F.inRound l) (n - 1 - 1) P (ownPostK (fun A B => ∀ k, Kb k → B.heap[k]? = A.heap[k]?) I Ix (pre ++ [x]) W) (a₁ x) W)
    (hdone : ∀ (D : Nat) (xs : List α) (W : World), w.heap.size ≤ D → S xs → I xs W → W.heap[D]? = some (.deferred (some [])) → Q .normal { a with defers := { target := .collected D, args := #[] } :: a.defers } W)
    (hstop : ∀ (D : Nat) (c : Code) (pre : List α) (W : World), w.heap.size ≤ D → Sp pre → Ix c pre W → W.heap[D]? = some (.deferred (some [])) → c.wpIn F n P Q { a with defers := { target := .collected D, args := #[] } :: a.defers } W) :
    (Code.rangeFunc g ps assign body).wpIn F n P Q a w := by
  refine wpIn_rangeFunc ?_
  intro fn hfn
  rw [hro]
  obtain ⟨rec, hrec⟩ : ∃ rec : LoopState → Option Code → Loop, rec = fun st pe => { state := st, pending := pe, fn, tmps := a.tmps, params := ps, assign, body, defers := w.heap.size } := ⟨_, rfl⟩
  obtain ⟨W1, hW1⟩ : ∃ W1, (w.alloc (.deferred (some []))).alloc (.loop (rec .ready none)) = W1 := ⟨_, rfl⟩
  have hL1 : W1.heap[w.heap.size + 1]? = some (.loop (rec .ready none)) := by
    rw [← hW1]
    have := World.alloc_heap_new (w.alloc (.deferred (some []))) (.loop (rec .ready none))
    rwa [World.size_alloc] at this
  have hK1 : W1.heap[w.heap.size]? = some (.deferred (some [])) := by
    rw [← hW1]
    exact (Below.heap_alloc _ _ _ (by simp)).trans (World.alloc_heap_new w _)
  have hI1 : I [] W1 := by
    rw [← hW1]
    exact hI.alloc _ (hI.alloc _ h0)
  have hb1 : Below w0.heap.size w0 W1 := by
    rw [← hW1]
    exact hb0.trans ((((Below.refl _ w).alloc (Nat.le_refl _) _).alloc (by simp) _).mono hb0.size)
  refine ⟨w.heap.size + 1, [{ target := .collected w.heap.size, args := #[] }], W1, { target := .fn (.func gf) lb, args := #[.func (.yield (w.heap.size + 1)) #[] #[]] }, W1, gf,
    #[.func (.yield (w.heap.size + 1)) #[] #[]] ++ lb, W1, ?_, ?_, ?_, ?_, fun _ => h1, ?_⟩
  · rw [← hW1, hrec]
    exact run_enterLoop_outer _ _ _ _ _
  · simp only [resolve, hg]
    simp [go_sem]
  · intro f' hf'
    simp [Target.leads] at hf'
    subst hf'
    exact hFg
  · simp [invoke, go_sem, eg]
  · have hnw : ∀ {A B : World} {row : Option Nat}, (∀ r, row = some r → W1.heap.size ≤ r ∧ ∃ o : Obj, A.heap[r]? = some o ∧ o.isWalk = true) → (∀ r, row = some r → w.heap.size ≤ r ∧ ∃ o : Obj, A.heap[r]? = some o ∧ o.isCells = false) :=
      fun hr r e => by
        obtain ⟨hB, o, ho, hw⟩ := hr r e
        exact ⟨by rw [← hW1] at hB; simp at hB; omega, o, ho, Obj.not_cells_of_walk hw⟩
    refine (hseq (w.heap.size + 1)
      (fun pre W => I pre W ∧ W.heap[w.heap.size + 1]? = some (.loop (rec .ready none)) ∧ W.heap[w.heap.size]? = some (.deferred (some [])))
      (fun pre W => ∃ c, Ix c pre W ∧ W.heap[w.heap.size + 1]? = some (.loop (rec .done (some c))) ∧ W.heap[w.heap.size]? = some (.deferred (some [])))
      W1 hb1
      (fun s A B row hs hg' hr => ⟨hI s A B row hs.1 hg' (hnw (B := B) hr), (grownBy_keeps hg' (fun r e => (hr r e).2) hs.2.1 rfl).trans hs.2.1, (grownBy_keeps hg' (fun r e => (hr r e).2) hs.2.2 rfl).trans hs.2.2⟩)
      (fun s A B row hs hg' hr => by
        obtain ⟨c, hc, hl, hk⟩ := hs
        exact ⟨c, hIx c s A B row hc hg' (hnw (B := B) hr), (grownBy_keeps hg' (fun r e => (hr r e).2) hl rfl).trans hl, (grownBy_keeps hg' (fun r e => (hr r e).2) hk rfl).trans hk⟩)
      (fun s A v hs => ⟨hIs s A v hs.1, setCell_else A b _ v hs.2.1 rfl, setCell_else A b _ v hs.2.2 rfl⟩)
      ?_ ⟨hI1, hL1, hK1⟩).mono ?_
    · rintro pre x W ⟨hi, hl, hk⟩ hlen
      have hlt : w.heap.size + 1 < W.heap.size := (Array.getElem?_eq_some_iff.1 hl).1
      have hy := run_yield (P := P) (args := encs x) hl (by rw [hrec]; exact hps x)
      rw [hrec] at hy
      refine ⟨fn, _, assign, body, hy, roundIn_of_wpIn hfn (hassign _ x W _ ⟨_, run_beginRound hl (by rw [hrec]), ?_⟩)⟩
      have hl2 : (W.putObj (w.heap.size + 1) (.loop { rec .ready none with state := .busy })).heap[w.heap.size + 1]? = some (.loop { rec .ready none with state := .busy }) := World.putObj_heap_same hlt
      have hk2 : (W.putObj (w.heap.size + 1) (.loop { rec .ready none with state := .busy })).heap[w.heap.size]? = some (.deferred (some [])) := (World.putObj_heap_other (by omega)).trans hk
      have hw2 : ∀ k, Kb k → (W.putObj (w.heap.size + 1) (.loop { rec .ready none with state := .busy })).heap[k]? = W.heap[k]? := fun k hk => World.putObj_heap_other (by have := hbw k hk; omega)
      refine wpIn_mono (hbody _ pre x _ (hI.putObj _ hi (by omega) hl rfl) hlen) ?_
      have fin : ∀ (jump : Option Code) (W3 : World), KeepsOthers (W.putObj (w.heap.size + 1) (.loop { rec .ready none with state := .busy })) W3 →
          (Instr.endRound (w.heap.size + 1) jump).run P W3 = .ok (.bool jump.isNone) (W3.putObj (w.heap.size + 1) (.loop (rec (if jump.isNone then .ready else .done) jump))) ∧
          W3.heap[w.heap.size + 1]? = some (.loop { rec .ready none with state := .busy }) ∧
          (W3.putObj (w.heap.size + 1) (.loop (rec (if jump.isNone then .ready else .done) jump))).heap[w.heap.size + 1]? = some (.loop (rec (if jump.isNone then .ready else .done) jump)) ∧
          (W3.putObj (w.heap.size + 1) (.loop (rec (if jump.isNone then .ready else .done) jump))).heap[w.heap.size]? = some (.deferred (some [])) := fun jump W3 hk3 => by
        have hl3 := hk3.same _ _ hl2 rfl
        have := run_endRound (P := P) jump hl3
        rw [hrec] at this ⊢
        exact ⟨this, by rw [hrec] at hl3; exact hl3, World.putObj_heap_same (Array.getElem?_eq_some_iff.1 hl3).1, (World.putObj_heap_other (by omega)).trans (hk3.same _ _ hk2 rfl)⟩
      rintro e a3 W3 hp
      cases e with
      | normal =>
        obtain ⟨hk3, hkp3, hi3⟩ := hp
        obtain ⟨hr, hl3, hl4, hk4⟩ := fin none W3 hk3
        exact ⟨_, _, hr, .inl ⟨rfl, ⟨hI.putObj _ hi3 (by omega) hl3 rfl, hl4, hk4⟩, fun k hk => (World.putObj_heap_other (by have := hbw k hk; omega)).trans ((hkp3 k hk).trans (hw2 k hk))⟩⟩
      | ret =>
        obtain ⟨hk3, hi3⟩ := hp
        obtain ⟨hr, hl3, hl4, hk4⟩ := fin (some .ret) W3 hk3
        exact ⟨_, _, hr, .inr ⟨rfl, .ret, (hIx _).putObj _ hi3 (by omega) hl3 rfl, hl4, hk4⟩⟩
      | exit id =>
        obtain ⟨hk3, hi3⟩ := hp
        obtain ⟨hr, hl3, hl4, hk4⟩ := fin (some (.exit id)) W3 hk3
        exact ⟨_, _, hr, .inr ⟨rfl, .exit id, (hIx _).putObj _ hi3 (by omega) hl3 rfl, hl4, hk4⟩⟩
      | goto t =>
        obtain ⟨hk3, hi3⟩ := hp
        obtain ⟨hr, hl3, hl4, hk4⟩ := fin (some (.goto t)) W3 hk3
        exact ⟨_, _, hr, .inr ⟨rfl, .goto t, (hIx _).putObj _ hi3 (by omega) hl3 rfl, hl4, hk4⟩⟩
      | panic ch => exact hp.elim
      | outgrown => exact hp.elim
    · rintro e W2 ⟨⟨v, rfl⟩, (⟨xs, hS, hi, hl, hk⟩ | ⟨pre, hSp, c, hi, hl, hk⟩)⟩
      · exact ⟨none, _, by have := run_endLoop (P := P) hl (by rw [hrec]; simp); rw [hrec] at this; exact this, hdone _ xs _ (Nat.le_refl _) hS (hI.putObj _ hi (by omega) hl rfl) ((World.putObj_heap_other (by omega)).trans hk)⟩
      · exact ⟨some c, _, by have := run_endLoop (P := P) hl (by rw [hrec]; simp); rw [hrec] at this; exact this, hstop _ c pre _ (Nat.le_refl _) hSp ((hIx c).putObj _ hi (by omega) hl rfl) ((World.putObj_heap_other (by omega)).trans hk)⟩
end Go.Proofs.YtjcefgjgjhdbpaaGreatDoor
namespace Go.Proofs.YtjcefgjgjhdbpaaGreatDoor
set_option linter.unusedVariables false
set_option linter.unusedSimpArgs false
open Go.RowKit Go.Shelf
attribute [local go_sem] Oper.semAt_some

theorem bs_len (s : ByteArray) : (bs s).length = s.size := bs_length s
theorem BoxN.other {w : World} {b g : Nat} {cs : List Value} {ty : TypeId} (h : BoxN w b cs ty) (hne : b ≠ g) (o : Nat) (v : Value) : BoxN (w.setCell ⟨g, o, none⟩ v) b cs ty := h.to (set_other v hne)
theorem below2s (w : World) (a b : Obj) : Below w.heap.size w ((w.alloc a).alloc b) := ((Below.refl _ w).alloc (Nat.le_refl _) _).alloc (by simp) _
theorem splitC_cons (c x : UInt8) (l : List UInt8) : splitC c (x :: l) = if x = c then [] :: splitC c l else match splitC c l with
    | [] => [[x]]
    | h :: t => (x :: h) :: t := rfl
theorem splitC_none {c : UInt8} : ∀ {l : List UInt8}, Lib.indexByte l c = -1 → splitC c l = [l]
  | [], _ => rfl
  | x :: l, h => by
    have h0 := Lib.indexByte_none h
    have hx : x ≠ c := fun e => h0 0 (by rw [e]; rfl)
    have hl : Lib.indexByte l c = -1 := by
      have hge := Lib.indexByte_ge l c
      unfold Lib.indexByte at h
      rw [if_neg (by simpa using hx)] at h
      by_cases h1 : Lib.indexByte l c = -1
      · exact h1
      · rw [if_neg (by simpa using h1)] at h
        omega
    unfold splitC
    rw [if_neg hx, splitC_none hl]
theorem splitC_some {c : UInt8} : ∀ {l : List UInt8} {i : Nat}, Lib.indexByte l c = i → splitC c l = l.take i :: splitC c (l.drop (i + 1))
  | [], i, h => by
    unfold Lib.indexByte at h
    omega
  | x :: l, i, h => by
    unfold Lib.indexByte at h
    by_cases hx : x = c
    · rw [if_pos (by simpa using hx)] at h
      obtain rfl : i = 0 := by omega
      rw [splitC_cons, if_pos hx]
      rfl
    · rw [if_neg (by simpa using hx)] at h
      by_cases h1 : Lib.indexByte l c = -1
      · rw [if_pos (by simpa using h1)] at h
        omega
      · rw [if_neg (by simpa using h1)] at h
        have hge := Lib.indexByte_ge l c
        obtain ⟨k, rfl⟩ : ∃ k, i = k + 1 := ⟨i - 1, by omega⟩
        have := splitC_some (c := c) (l := l) (i := k) (by omega)
        rw [splitC_cons, if_neg hx, this]
        rfl
/-- Texts of at most m bytes. -/
abbrev TxtM (m : Nat) := { x : ByteArray // x.size ≤ m }

/-- how long the text in a cell is -/
def textLen (b : Nat) (W : World) : Nat := match W.cell? ⟨b, 0, none⟩ with
  | some (.string s) => s.size
  | _ => 0
theorem textLen_eq {b : Nat} {W : World} {s : ByteArray} (h : W.cell? ⟨b, 0, none⟩ = some (.string s)) : textLen b W = s.size := by
  unfold textLen
  rw [h]

set_option maxHeartbeats 4000000 in
set_option maxRecDepth 100000 in
theorem split1_in (n : Nat) (hn : 1 ≤ n) (l pB sB vB : Nat) (c : UInt8) (m : Nat) (s : ByteArray) (hs : s.size ≤ 140737488355327) (hm : s.size ≤ m) (hne : pB ≠ sB ∧ vB ≠ sB) (J Jx : List (TxtM m) → World → Prop)
    (hJs : ∀ ps W v, J ps W → J ps (W.setCell ⟨sB, 0, none⟩ v))
    (hY : ∀ pre x W, J pre W → pre.length < (splitC c (bs s)).length → YieldAt Fence.wide (n - 1) Tryz.prog l #[.string x.1] W fun e W' =>
      (e = .returned (.bool true) ∧ J (pre ++ [x]) W' ∧ ∀ k, (k = pB ∨ k = sB ∨ k = vB) → W'.heap[k]? = W.heap[k]?) ∨ (e = .returned (.bool false) ∧ Jx (pre ++ [x]) W'))
    (W : World) (hp : BoxN W pB [.string ⟨#[c]⟩] 9) (hsB : BoxN W sB [.string s] 9) (hv : BoxN W vB [.int .i64 0] 3) (h0 : J [] W) :
    CallsIn Fence.wide n Tryz.prog 126 #[.func (.yield l) #[] #[], .pointer (some ⟨pB, 0, none⟩), .pointer (some ⟨sB, 0, none⟩), .pointer (some ⟨vB, 0, none⟩)] W fun e W' => (∃ v, e = .returned v) ∧
      ((∃ ys, ys.map (fun x => bs x.1) = splitC c (bs s) ∧ J ys W') ∨ (∃ pre, pre.map (fun x => bs x.1) <+: splitC c (bs s) ∧ Jx pre W')) := by
  refine callsIn_of_wp Tryz.func126 rfl trivial ?_ rfl
  simp only [Tryz.ntmps126, List.size_toArray, List.length_cons, List.length_nil, Nat.reduceAdd, Nat.reduceSub, Array.replicate_succ, Array.replicate_zero, List.push_toArray, List.append_toArray, List.nil_append, List.cons_append]
  have p0 := hp.cell (j := 0) rfl
  gi_wp2
  gi_loopw [7, 8] (fun _ _ wr => ∃ (pre : List (TxtM m)) (cur : ByteArray), splitC c (bs s) = pre.map (fun x => bs x.1) ++ splitC c (bs cur) ∧ cur.size ≤ s.size ∧ Hid (BoxN wr pB [.string ⟨#[c]⟩] 9 ∧ BoxN wr sB [.string cur] 9 ∧ BoxN wr vB [.int .i64 0] 3) ∧ J pre wr) (fun _ _ wr => textLen sB wr)
  case atStart => exact ⟨[], s, rfl, Nat.le_refl _, ⟨hp, hsB, hv⟩, h0⟩
  case round =>
    obtain ⟨pre, cur, hsp, hcl, HX, hJ⟩ := hrel
    clear p0
    have p0 := HX.out.1.cell (j := 0) rfl
    have q0 := HX.out.2.1.cell (j := 0) rfl
    have r0 := HX.out.2.2.cell (j := 0) rfl
    have f0 := HX.out.2.1.frozen 0
    have HI := Lib.hid (fun w => Any.strings_Index_one Tryz.layIndexT cur c w)
    have hlen : pre.length < (splitC c (bs s)).length := by
      rw [hsp, List.length_append, List.length_map]
      have : 0 < (splitC c (bs cur)).length := by
        cases h : splitC c (bs cur) with
        | nil =>
          cases hb : bs cur with
          | nil => rw [hb] at h; cases h
          | cons x l =>
            rw [hb] at h
            unfold splitC at h
            split at h
            · cases h
            · split at h <;> cases h
        | cons _ _ => simp
      omega
    replace hlen := Lib.hid hlen
    obtain ⟨r, hr⟩ : ∃ r, Lib.indexByte (bs cur) c = r := ⟨_, rfl⟩
    have hge := Lib.indexByte_ge (bs cur) c
    rw [hr] at hge
    have HR := Lib.hid hr
    have HI2 : Hid (∀ w, Calls Tryz.prog 127 #[.string cur, .string ⟨#[c]⟩] w fun e w' => e = .returned (.int .i64 r) ∧ w' = w) := fun w => by
      have := HI.out w
      rw [show Lib.indexByte cur.data.toList c = r from hr] at this
      exact this
    clear HI hr
    by_cases hneg : r = -1
    · subst hneg
      have hlast := splitC_none HR.out
      rw [hlast] at hsp
      obtain ⟨fn, tmps, assign, body, hy, hR⟩ := hY pre ⟨cur, Nat.le_trans hcl hm⟩ wr hJ hlen.out
      replace hsp := Lib.hid hsp
      replace hlast := Lib.hid hlast
      gi_wp2_with (refine ⟨trivial, ?_⟩; gi_at_call 127; refine (callsIn_wide.2 (HI2.out _)).mono ?_; rintro e w' ⟨rfl, rfl⟩)
      refine hR.mono ?_
      rintro e W3 (⟨rfl, hJ3, hk3⟩ | ⟨rfl, hJx3⟩)
      · gi_wp2
        go_end0
        exact ⟨⟨_, rfl⟩, .inl ⟨_, by rw [hsp.out, List.map_append]; rfl, hJ3⟩⟩
      · gi_wp2
        go_end0
        exact ⟨⟨_, rfl⟩, .inr ⟨_, ⟨[], by rw [hsp.out, List.map_append, List.append_nil]; rfl⟩, hJx3⟩⟩
    · obtain ⟨i, rfl⟩ : ∃ i : Nat, r = i := ⟨r.toNat, by omega⟩
      have hil : i < (bs cur).length := by
        have h1 := (Lib.indexByte_some HR.out).1
        exact (List.getElem?_eq_some_iff.1 h1).1
      rw [bs_len] at hil
      have hone := splitC_some HR.out
      rw [hone] at hsp
      have hfr : bs (cur.extract 0 i) = (bs cur).take i := by
        show (cur.extract 0 i).data.toList = _
        rw [Lib.extract_data]
        simp [bs]
      have hrest : bs (cur.extract (i + 1) cur.size) = (bs cur).drop (i + 1) := Lib.extract_to_end cur (i + 1)
      have hfs : (cur.extract 0 i).size ≤ m := by
        rw [← bs_len, hfr, List.length_take, bs_len]
        omega
      obtain ⟨fn, tmps, assign, body, hy, hR⟩ := hY pre ⟨cur.extract 0 i, hfs⟩ wr hJ hlen.out
      have hi0 : (0 : Int) ≤ (i : Int) := by omega
      have hi1 : (i : Int) ≤ (cur.size : Int) := by omega
      have hi2 : ¬ (i : Int) < 0 := by omega
      have hi3 : (i : Int) + 1 ≤ (cur.size : Int) := by omega
      have hi4 : (0 : Int) ≤ (i : Int) + 1 := by omega
      have hi5 : ((i : Int) + 1).toNat = i + 1 := by omega
      replace hsp := Lib.hid hsp
      replace hone := Lib.hid hone
      replace hfr := Lib.hid hfr
      replace hrest := Lib.hid hrest
      gi_wp2_with (refine ⟨trivial, ?_⟩; gi_at_call 127; refine (callsIn_wide.2 (HI2.out _)).mono ?_; rintro e w' ⟨rfl, rfl⟩)
      refine hR.mono ?_
      rintro e W3 (⟨rfl, hJ3, hk3⟩ | ⟨rfl, hJx3⟩)
      · have HX3 : Hid (BoxN W3 pB [.string ⟨#[c]⟩] 9 ∧ BoxN W3 sB [.string cur] 9 ∧ BoxN W3 vB [.int .i64 0] 3) :=
          ⟨HX.out.1.to (hk3 pB (.inl rfl)), HX.out.2.1.to (hk3 sB (.inr (.inl rfl))), HX.out.2.2.to (hk3 vB (.inr (.inr rfl)))⟩
        clear p0 q0 r0 f0 hk3
        have p0 := HX3.out.1.cell (j := 0) rfl
        have q0 := HX3.out.2.1.cell (j := 0) rfl
        have f0 := HX3.out.2.1.frozen 0
        have HN : Hid (BoxN (W3.setCell ⟨sB, 0, none⟩ (.string (cur.extract (i + 1) cur.size))) pB [.string ⟨#[c]⟩] 9 ∧ BoxN (W3.setCell ⟨sB, 0, none⟩ (.string (cur.extract (i + 1) cur.size))) sB [.string (cur.extract (i + 1) cur.size)] 9 ∧ BoxN (W3.setCell ⟨sB, 0, none⟩ (.string (cur.extract (i + 1) cur.size))) vB [.int .i64 0] 3) :=
          ⟨HX3.out.1.other hne.1 _ _, HX3.out.2.1.set 0 _, HX3.out.2.2.other hne.2 _ _⟩
        have HJN := Lib.hid (hJs _ W3 (.string (cur.extract (i + 1) cur.size)) hJ3)
        have HTL := Lib.hid (textLen_eq (HX.out.2.1.cell (j := 0) rfl))
        gi_wp2
        go_roundw
        case rel =>
          refine ⟨pre ++ [⟨cur.extract 0 i, hfs⟩], cur.extract (i + 1) cur.size, ?_, ?_, HN.out, HJN.out⟩
          · rw [hsp.out, hrest.out, List.map_append, List.append_assoc, ← hfr.out]
            rfl
          · refine Nat.le_trans ?_ hcl
            have h1 : (cur.extract (i + 1) cur.size).size = ((bs cur).drop (i + 1)).length := by rw [← hrest.out, bs_len]
            rw [h1, List.length_drop, bs_len]
            omega
        case measure =>
          rw [HTL.out, textLen_eq (HN.out.2.1.cell (j := 0) rfl), ← bs_len, hrest.out, List.length_drop, bs_len]
          omega
      · gi_wp2
        refine bodyPost_ret (results_none rfl _ _ _) rfl ?_
        refine ⟨⟨_, rfl⟩, .inr ⟨_, ⟨splitC c ((bs cur).drop (i + 1)), ?_⟩, hJx3⟩⟩
        rw [hsp.out, List.map_append, List.append_assoc, ← hfr.out]
        rfl

/-- The contract. -/
theorem split_seq (n : Nat) (hn : 1 ≤ n) (pB sB vB : Nat) (c : UInt8) (m : Nat) (s : ByteArray) (hs : s.size ≤ 140737488355327) (hm : s.size ≤ m) (hne : pB ≠ sB ∧ vB ≠ sB) (w : World) (hp : BoxN w pB [.string ⟨#[c]⟩] 9) (hsB : BoxN w sB [.string s] 9) (hv : BoxN w vB [.int .i64 0] 3) :
    SeqS Fence.wide n Tryz.prog 126 #[.pointer (some ⟨pB, 0, none⟩), .pointer (some ⟨sB, 0, none⟩), .pointer (some ⟨vB, 0, none⟩)] (fun x : TxtM m => #[.string x.1]) sB (fun k => k = pB ∨ k = sB ∨ k = vB)
      (fun ys => ys.map (fun x => bs x.1) = splitC c (bs s)) (fun pre => pre.map (fun x => bs x.1) <+: splitC c (bs s)) (splitC c (bs s)).length w := by
  intro l J Jx W hb hJ hJx hJs hY h0
  exact split1_in n hn l pB sB vB c m s hs hm hne J Jx hJs hY W (hp.below hb) (hsB.below hb) (hv.below hb) h0

set_option maxHeartbeats 1000000 in
/-- SplitSeq makes it. -/
theorem splitSeq_c (s : ByteArray) (c : UInt8) (w : World) :
    Calls Tryz.prog 52 #[.string s, .string ⟨#[c]⟩] w fun e w' => e = .returned (.func (.func 126) #[] #[.pointer (some ⟨w.heap.size + 1, 0, none⟩), .pointer (some ⟨w.heap.size, 0, none⟩), .pointer (some ⟨w.heap.size + 2, 0, none⟩)]) ∧
      Below w.heap.size w w' ∧ BoxN w' w.heap.size [.string s] 9 ∧ BoxN w' (w.heap.size + 1) [.string ⟨#[c]⟩] 9 ∧ BoxN w' (w.heap.size + 2) [.int .i64 0] 3 := by
  have HC : Hid (Calls Tryz.prog 87 #[.string s, .string ⟨#[c]⟩, .int .i64 0] w fun e w' => e = .returned (.func (.func 126) #[] #[.pointer (some ⟨w.heap.size + 1, 0, none⟩), .pointer (some ⟨w.heap.size, 0, none⟩), .pointer (some ⟨w.heap.size + 2, 0, none⟩)]) ∧
      Below w.heap.size w w' ∧ BoxN w' w.heap.size [.string s] 9 ∧ BoxN w' (w.heap.size + 1) [.string ⟨#[c]⟩] 9 ∧ BoxN w' (w.heap.size + 2) [.int .i64 0] 3) := by
    have HB : Hid (Below w.heap.size w (((w.alloc (.cells #[.string s] 9)).alloc (.cells #[.string ⟨#[c]⟩] 9)).alloc (.cells #[.int .i64 0] 3)) ∧ BoxN (((w.alloc (.cells #[.string s] 9)).alloc (.cells #[.string ⟨#[c]⟩] 9)).alloc (.cells #[.int .i64 0] 3)) w.heap.size [.string s] 9 ∧ BoxN (((w.alloc (.cells #[.string s] 9)).alloc (.cells #[.string ⟨#[c]⟩] 9)).alloc (.cells #[.int .i64 0] 3)) (w.heap.size + 1) [.string ⟨#[c]⟩] 9 ∧ BoxN (((w.alloc (.cells #[.string s] 9)).alloc (.cells #[.string ⟨#[c]⟩] 9)).alloc (.cells #[.int .i64 0] 3)) (w.heap.size + 2) [.int .i64 0] 3) := by
      have h0 := boxN_alloc w [.string s] 9
      have h1 := boxN_alloc (w.alloc (.cells #[.string s] 9)) [.string ⟨#[c]⟩] 9
      have h2 := boxN_alloc ((w.alloc (.cells #[.string s] 9)).alloc (.cells #[.string ⟨#[c]⟩] 9)) [.int .i64 0] 3
      simp only [World.size_alloc] at h1 h2
      exact ⟨below_tr (below2s _ _ _) (below1 _ _), (h0.below (below1 _ _)).below (below1 _ _), h1.below (below1 _ _), h2⟩
    go_enter Tryz.func87, Tryz.ntmps87
    go_wp2
    go_ret
    exact ⟨rfl, HB.out.1, HB.out.2.1, HB.out.2.2.1, HB.out.2.2.2⟩
  go_enter Tryz.func52, Tryz.ntmps52
  go_wp2_with fail
  refine HC.out.mono ?_
  rintro e w' ⟨rfl, h1, h2, h3, h4⟩
  have H := Lib.hid (And.intro h1 (And.intro h2 (And.intro h3 h4)))
  clear h1 h2 h3 h4
  go_wp2_with fail
  go_ret
  exact ⟨rfl, H.out.1, H.out.2.1, H.out.2.2.1, H.out.2.2.2⟩
end Go.Proofs.YtjcefgjgjhdbpaaGreatDoor
