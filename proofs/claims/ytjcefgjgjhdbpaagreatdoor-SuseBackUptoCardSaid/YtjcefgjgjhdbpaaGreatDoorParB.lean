/-
  A value is taken. Helper text; the conditions are those typed.
  Packages of a text: what holds at the labels. Helper text; the conditions are those typed.
  Packages of a text: a line in a block. Helper text; the conditions are those typed.
-/
import Derived.Test.YtjcefgjgjhdbpaaGreatDoorPutE
import Derived.Test.YtjcefgjgjhdbpaaGreatDoorPackC
import Derived.Test.YtjcefgjgjhdbpaaGreatDoorListF
import Derived.ScopeJumps
import Derived.WalkMore
import Derived.Deep.Cut
import Derived.Deep.CutRange
namespace Go.Proofs.YtjcefgjgjhdbpaaGreatDoor
set_option linter.unusedVariables false
set_option linter.unusedSimpArgs false
open Go.RowKit Go.Maps

theorem listOf_no {t : Wd} : t ≠ vndW → t ≠ flsW → listOf t = none ∨ ∃ i, listOf t = some i := fun _ _ => by
  cases listOf t with
  | none => exact .inl rfl
  | some i => exact .inr ⟨i, rfl⟩
/-- suse's put. -/
theorem put_c {w : World} {L B M : Nat} {st : SSt} {n : Nat} (h : RdSt w L B M st n) (hc : st.cur.isSome = true) (hn : n ≤ 1000000) (t x : ByteArray) (ht : t.size ≤ 40000) (hx : x.size ≤ 40000) :
    Calls Tryz.prog 19 #[.pointer (some ⟨B, 0, none⟩), .string t, .string x] w (StepP w L B M (putS st (bs t) (bs x)) (n + 1)) := by
  obtain ⟨K, p, vo, v, vf, h1, h2, h3, h4, h5⟩ := h
  obtain ⟨out, cur⟩ := st
  have hm : 40000 ≤ maxLen := by decide
  cases cur with
  | none => cases hc
  | some q =>
    obtain rfl : q = p := h2 q rfl
    have h1 : Rdr w L B M K out q true vo v vf := h1
    have h5 : out.length ≤ 200 := h5
    have hlw : L ≤ w.heap.size := Nat.le_trans h1.outs.lB (Nat.le_of_lt h1.box.lt)
    unfold putS putP
    simp only
    by_cases e1 : bs t = vndW
    · rw [if_pos e1]
      have et : t = ⟨#[86, 110, 100]⟩ := by rw [← mkB_bs t, e1]; rfl
      subst et
      refine (put_vnd L B M K out q vo v vf x (by omega) w h1).mono ?_
      rintro e w' ⟨rfl, hb, hr⟩
      refine ⟨hb, rfl, K, _, vo, v, vf, hr, fun q' hq => ?_, fun i => Nat.le_trans (h3 i) (by omega), Nat.le_trans h4 (by omega), h5⟩
      exact (Option.some.inj hq).symm
    · rw [if_neg e1]
      by_cases e2 : bs t = flsW
      · rw [if_pos e2]
        have et : t = ⟨#[70, 108, 115]⟩ := by rw [← mkB_bs t, e2]; rfl
        subst et
        refine (put_fls L B M K out q vo v vf x (by omega) (by omega) w h1).mono ?_
        rintro e w' ⟨rfl, hb, vf', hr⟩
        refine ⟨hb, rfl, K, _, vo, v, vf', hr, fun q' hq => ?_, fun i => Nat.le_trans (h3 i) (by omega), ?_, h5⟩
        · exact (Option.some.inj hq).symm
        · show (q.files ++ [mkB (trimT (bs x))]).length ≤ n + 1
          rw [List.length_append, List.length_singleton]
          omega
      · rw [if_neg e2]
        rcases listOf_no e1 e2 with e3 | ⟨i, e3⟩
        · rw [e3]
          refine (put_no L B M K out q vo v vf t x (by omega) e1 e2 e3 w h1).mono ?_
          rintro e w' ⟨rfl, rfl⟩
          exact ⟨Below.refl _ _, rfl, K, q, vo, v, vf, h1, fun q' hq => (Option.some.inj hq).symm, fun i => Nat.le_trans (h3 i) (by omega), Nat.le_trans h4 (by omega), h5⟩
        · rw [e3]
          simp only [mkB_bs]
          by_cases e4 : (depParse x).2 = 0
          · simp only [ne_eq, e4, not_true_eq_false, ↓reduceIte]
            have hd : depParse x = ((depParse x).1, 0) := by rw [← e4]
            refine (put_one L B M K out q vo v vf i t x (by omega) e3 (by omega) (depParse x).1 hd (Nat.le_trans (h3 i) hn) w h1).mono ?_
            rintro e w' ⟨rfl, hb, K', v', hr⟩
            refine ⟨hb, rfl, K', _, vo, v', vf, hr, fun q' hq => (Option.some.inj hq).symm, fun j => ?_, Nat.le_trans h4 (by omega), h5⟩
            by_cases ej : j = i
            · subst ej
              rw [add_L, List.length_append, List.length_singleton]
              have := h3 j
              omega
            · rw [add_Lne _ _ ej]
              exact Nat.le_trans (h3 j) (by omega)
          · simp only [ne_eq, e4, not_false_eq_true, ↓reduceIte]
            refine (put_bad L B M K out q vo v vf i t x (by omega) e3 (by omega) e4 w h1).mono ?_
            rintro e w' ⟨rfl, hb⟩
            exact ⟨below_to hb hlw, rfl⟩
end Go.Proofs.YtjcefgjgjhdbpaaGreatDoor
namespace Go.Proofs.YtjcefgjgjhdbpaaGreatDoor
set_option linter.unusedVariables false
set_option linter.unusedSimpArgs false
open Go.RowKit Go.Maps

/-- As Q; by a goto to label 0: J0; to label 1: J1; no other goto. -/
def leap (J0 J1 : Act → World → Prop) (Q : Exit → Act → World → Prop) : Exit → Act → World → Prop
  | .goto l, a, w => (l = 0 ∧ J0 a w) ∨ (l = 1 ∧ J1 a w)
  | e, a, w => Q e a w
theorem leap_mono {J0 J1 J0' J1' : Act → World → Prop} {Q : Exit → Act → World → Prop} (h0 : ∀ a w, J0 a w → J0' a w) (h1 : ∀ a w, J1 a w → J1' a w) {e : Exit} {a : Act} {w : World} (h : leap J0 J1 Q e a w) : leap J0' J1' Q e a w := by
  cases e with
  | goto l => exact h.imp (fun h => ⟨h.1, h0 _ _ h.2⟩) (fun h => ⟨h.1, h1 _ _ h.2⟩)
  | normal => exact h
  | exit id => exact h
  | ret => exact h
  | panic ch => exact h
  | outgrown => exact h
/-- A scope with two labels: what holds at a label bears a number, which every way back to either lowers. -/
theorem wp_scope_two {P : Program} {a : Act} {w : World} {Q : Exit → Act → World → Prop} {c B0 B1 : Code} (h0 : findLabel c 0 = some (.seq .skip B0)) (h1 : findLabel c 1 = some (.seq .skip B1)) (I0 I1 : Nat → Act → World → Prop)
    (pass0 : ∀ k a w, I0 k a w → B0.wp P (leap (fun a' w' => ∃ k', k' < k ∧ I0 k' a' w') (fun a' w' => ∃ k', k' < k ∧ I1 k' a' w') Q) a w)
    (pass1 : ∀ k a w, I1 k a w → B1.wp P (leap (fun a' w' => ∃ k', k' < k ∧ I0 k' a' w') (fun a' w' => ∃ k', k' < k ∧ I1 k' a' w') Q) a w)
    (first : (∀ k a w, I0 k a w → B0.wp P (leap (fun a' w' => ∃ k', I0 k' a' w') (fun a' w' => ∃ k', I1 k' a' w') Q) a w) → c.wp P (leap (fun a' w' => ∃ k', I0 k' a' w') (fun a' w' => ∃ k', I1 k' a' w') Q) a w) : (Code.scope c).wp P Q a w := by
  intro b k cs
  have key : ∀ n a w, ((I0 n a w → ∃ e a' w', Q e a' w' ∧ Arrives P (lone (b.at a (.code (.seq .skip B0) :: .inScope c :: k)) cs w) b k cs e a' w') ∧ (I1 n a w → ∃ e a' w', Q e a' w' ∧ Arrives P (lone (b.at a (.code (.seq .skip B1) :: .inScope c :: k)) cs w) b k cs e a' w')) := by
    intro n
    induction n using Nat.strongRecOn with
    | _ n ih =>
      have go : ∀ (B : Code) a w, B.wp P (leap (fun a' w' => ∃ k', k' < n ∧ I0 k' a' w') (fun a' w' => ∃ k', k' < n ∧ I1 k' a' w') Q) a w → ∃ e a' w', Q e a' w' ∧ Arrives P (lone (b.at a (.code (.seq .skip B) :: .inScope c :: k)) cs w) b k cs e a' w' := by
        intro B a w hB
        obtain ⟨e, a₁, w₁, hq, harr⟩ := (wp_seq (wp_skip hB)) b (.inScope c :: k) cs
        cases e with
        | normal => exact ⟨.normal, a₁, w₁, hq, Steps.trans harr (.one step_inScope)⟩
        | exit id => exact ⟨.exit id, a₁, w₁, hq, fun k' hk => harr k' (by simp [exitTo, hk])⟩
        | goto l' =>
          rcases hq with ⟨rfl, k', hlt, hi⟩ | ⟨rfl, k', hlt, hi⟩
          · obtain ⟨e₂, a₂, w₂, hq₂, harr₂⟩ := (ih k' hlt a₁ w₁).1 hi
            exact ⟨e₂, a₂, w₂, hq₂, .of_steps (harr _ (by simp [gotoIn, h0])) harr₂⟩
          · obtain ⟨e₂, a₂, w₂, hq₂, harr₂⟩ := (ih k' hlt a₁ w₁).2 hi
            exact ⟨e₂, a₂, w₂, hq₂, .of_steps (harr _ (by simp [gotoIn, h1])) harr₂⟩
        | ret => exact ⟨_, a₁, w₁, hq, harr⟩
        | panic ch => exact ⟨_, a₁, w₁, hq, harr⟩
        | outgrown => exact ⟨_, a₁, w₁, hq, harr⟩
      exact fun a w => ⟨fun h => go B0 a w (pass0 n a w h), fun h => go B1 a w (pass1 n a w h)⟩
  have hf := first fun k a w hi => Code.wp_mono (fun e a' w' h => leap_mono (fun _ _ ⟨k', _, h⟩ => ⟨k', h⟩) (fun _ _ ⟨k', _, h⟩ => ⟨k', h⟩) h) (pass0 k a w hi)
  obtain ⟨e, a₁, w₁, hq, harr⟩ := hf b (.inScope c :: k) cs
  cases e with
  | normal => exact ⟨.normal, a₁, w₁, hq, .head step_scope (Steps.trans harr (.one step_inScope))⟩
  | exit id => exact ⟨.exit id, a₁, w₁, hq, fun k' hk => .head step_scope (harr k' (by simp [exitTo, hk]))⟩
  | goto l' =>
    rcases hq with ⟨rfl, k', hi⟩ | ⟨rfl, k', hi⟩
    · obtain ⟨e₂, a₂, w₂, hq₂, harr₂⟩ := (key k' a₁ w₁).1 hi
      exact ⟨e₂, a₂, w₂, hq₂, .of_steps (.head step_scope (harr _ (by simp [gotoIn, h0]))) harr₂⟩
    · obtain ⟨e₂, a₂, w₂, hq₂, harr₂⟩ := (key k' a₁ w₁).2 hi
      exact ⟨e₂, a₂, w₂, hq₂, .of_steps (.head step_scope (harr _ (by simp [gotoIn, h1]))) harr₂⟩
  | ret => exact ⟨_, a₁, w₁, hq, .of_steps (.one step_scope) harr⟩
  | panic ch => exact ⟨_, a₁, w₁, hq, .of_steps (.one step_scope) harr⟩
  | outgrown => exact ⟨_, a₁, w₁, hq, .of_steps (.one step_scope) harr⟩

theorem arr150 (t : Array Value) (h : t.size = 150) : ∃ f : Nat → Value, t = #[f 0, f 1, f 2, f 3, f 4, f 5, f 6, f 7, f 8, f 9, f 10, f 11, f 12, f 13, f 14, f 15, f 16, f 17, f 18, f 19, f 20, f 21, f 22, f 23, f 24, f 25, f 26, f 27, f 28, f 29, f 30, f 31, f 32, f 33, f 34, f 35, f 36, f 37, f 38, f 39, f 40, f 41, f 42, f 43, f 44, f 45, f 46, f 47, f 48, f 49, f 50, f 51, f 52, f 53, f 54, f 55, f 56, f 57, f 58, f 59, f 60, f 61, f 62, f 63, f 64, f 65, f 66, f 67, f 68, f 69, f 70, f 71, f 72, f 73, f 74, f 75, f 76, f 77, f 78, f 79, f 80, f 81, f 82, f 83, f 84, f 85, f 86, f 87, f 88, f 89, f 90, f 91, f 92, f 93, f 94, f 95, f 96, f 97, f 98, f 99, f 100, f 101, f 102, f 103, f 104, f 105, f 106, f 107, f 108, f 109, f 110, f 111, f 112, f 113, f 114, f 115, f 116, f 117, f 118, f 119, f 120, f 121, f 122, f 123, f 124, f 125, f 126, f 127, f 128, f 129, f 130, f 131, f 132, f 133, f 134, f 135, f 136, f 137, f 138, f 139, f 140, f 141, f 142, f 143, f 144, f 145, f 146, f 147, f 148, f 149] := by
  have h1 : t = ((List.range 150).map fun i => t.getD i undef).toArray := by
    apply Array.ext
    · simp [h]
    · intro i h1 h2
      simp [h1]
  exact ⟨fun i => t.getD i undef, h1⟩

/-- Where the reading stands: an error, or what is left to read. -/
def Reads (w0 wr : World) (B M : Nat) (R : List PkgT × Int) (m : Option Wd) (s : ByteArray) (E : Int) : Prop :=
  (E ≠ 0 ∧ R = ([], E)) ∨ (E = 0 ∧ ∃ st, RdSt wr w0.heap.size B M st (40000 - s.size) ∧ runS m (linesB (bs s)) st = R ∧ (m ≠ none → st.cur.isSome = true))
/-- At a label. -/
def AtL (w0 : World) (R : List PkgT × Int) (B M : Nat) (blk : Bool) (k : Nat) (x : Act) (wr : World) : Prop :=
  x.defers = [] ∧ x.tmps.size = 150 ∧ ∃ (s t : ByteArray) (E : Int), x.tmps[0]? = some (.string s) ∧ x.tmps[4]? = some (.pointer (some ⟨B, 0, none⟩)) ∧ x.tmps[9]? = some (.int .i64 E) ∧ (blk = true → x.tmps[6]? = some (.string t)) ∧ s.size = k ∧ s.size ≤ 40000 ∧ t.size ≤ 40000 ∧ w0.heap.size ≤ B ∧
    Hid (Below w0.heap.size w0 wr ∧ Reads w0 wr B M R (if blk = true then some (bs t) else none) s E)
def scopeOf : Option Code → Code
  | some (.seq _ (.scope c)) => c
  | _ => .skip
/-- What Parse answers. -/
def ParsedP (w0 : World) (R : List PkgT × Int) (e : Ending) (w' : World) : Prop :=
  ∃ vo, e = .returned (.tuple #[vo, .int .i64 R.2]) ∧ Below w0.heap.size w0 w' ∧ PkgsV w' (New w0.heap.size w') R.1 vo
theorem lineOf_cut (l : Wd) : cutA 10 l = lineOf l := rfl
theorem restOf_cut (l : Wd) : cutZ 10 l = restOf l := rfl
theorem u8c {c : UInt8} {n : Nat} (h : c.toNat ≠ n) : ((c.toNat : Int) == (n : Int)) = false := by
  rw [beq_eq_false_iff_ne]
  omega
end Go.Proofs.YtjcefgjgjhdbpaaGreatDoor
namespace Go.Proofs.YtjcefgjgjhdbpaaGreatDoor
set_option linter.unusedVariables false
set_option linter.unusedSimpArgs false
open Go.RowKit Go.Maps

theorem pkgs_none (w : World) (S : Nat → Prop) : PkgsV w S [] (.slice none 0 0) := ⟨none, 0, rfl, by decide, fun h => absurd rfl h⟩
theorem runB_nil (t : Wd) (st : SSt) : runS (some t) [] st = ([], 130) := rfl
theorem runB_cons (t s : Wd) (l : List Wd) (st : SSt) : runS (some t) (s :: l) st = match stepB t s st with
    | .err e => ([], e)
    | .go m' st' => runS m' l st' := rfl
theorem linesB_ne {s : ByteArray} (h : s.size ≠ 0) : linesB (bs s) = lineOf (bs s) :: linesB (restOf (bs s)) := by
  refine linesB_cons (fun e => h ?_)
  rw [← bs_length, e]
  rfl
theorem linesB_e {s : ByteArray} (h : s.size = 0) : linesB (bs s) = [] := by
  have : bs s = [] := List.length_eq_zero_iff.1 (by rw [bs_length]; exact h)
  rw [this]
  rfl
theorem line_size (s : ByteArray) : (mkB (lineOf (bs s))).size ≤ s.size := by
  show (lineOf (bs s)).length ≤ _
  rw [← bs_length]
  exact (List.takeWhile_prefix _).length_le
theorem rest_size {s : ByteArray} (h : s.size ≠ 0) : (mkB (restOf (bs s))).size < s.size := by
  show (restOf (bs s)).length < _
  rw [← bs_length]
  cases e : bs s with
  | nil =>
    exact absurd (by rw [← bs_length, e]; rfl) h
  | cons c l =>
    have := restOf_len c l
    rw [List.length_cons]
    omega
theorem empty_b {s : ByteArray} (h : s.size = 0) : s = ⟨#[]⟩ := by
  have : bs s = [] := List.length_eq_zero_iff.1 (by rw [bs_length]; exact h)
  rw [← mkB_bs s, this]
  rfl
theorem nil_ne {l : Wd} (h : l ≠ []) : ((mkB l).toList == ([] : List UInt8)) = false := by
  rw [Lib.toList_data]
  show (l == []) = false
  simpa using h
theorem nil_ne2 {l : Wd} (h : l ≠ []) : ((mkB l).toList != ([] : List UInt8)) = true := by
  rw [bne, nil_ne h]
  rfl
theorem nil_ne3 {l : Wd} (h : l ≠ []) : (mkB l).toList.isEmpty = false := by
  rw [Lib.toList_data]
  show l.isEmpty = false
  cases l with
  | nil => exact absurd rfl h
  | cons _ _ => rfl
theorem same_of {a b : Wd} (h : a = b) : ((mkB a).toList == (mkB b).toList) = true := by subst h; simp
theorem same_not {a b : Wd} (h : a ≠ b) : ((mkB a).toList == (mkB b).toList) = false := by
  rw [Lib.toList_data, Lib.toList_data]
  show (a == b) = false
  simpa using h
theorem tagOf_len {s : Wd} {x : Wd × Wd} (h : tagOf s = some x) : x.1.length ≤ s.length ∧ x.2.length ≤ s.length := by
  rw [tagOf_is] at h
  split at h
  · injection h with h
    subst h
    have h1 : (s.drop 1).length ≤ s.length := by rw [List.length_drop]; omega
    refine ⟨Nat.le_trans (List.takeWhile_prefix _).length_le h1, ?_⟩
    show ((List.dropWhile _ (s.drop 1)).drop 1).length ≤ _
    rw [List.length_drop]
    have := (List.dropWhile_sublist (· != (58 : UInt8)) (l := s.drop 1)).length_le
    omega
  · cases h
set_option maxHeartbeats 8000000 in
set_option maxRecDepth 1000000 in
theorem pass1 (w0 : World) (R : List PkgT × Int) (B M : Nat) (B1 : Code) (hB1 : findLabel (scopeOf Tryz.f7.body) 1 = some (.seq .skip B1)) (k : Nat) (x : Act) (wr : World) (hx : AtL w0 R B M true k x wr) :
    B1.wp Tryz.prog (leap (fun a' w' => ∃ k', k' < k ∧ AtL w0 R B M false k' a' w') (fun a' w' => ∃ k', k' < k ∧ AtL w0 R B M true k' a' w') (bodyPost Tryz.prog Tryz.f7 (ParsedP w0 R))) x wr := by
  simp only [scopeOf, findLabel, Tryz.f7, Nat.reduceBEq, Bool.false_eq_true, ↓reduceIte, beq_self_eq_true, Option.some.injEq, Code.seq.injEq, true_and] at hB1
  subst hB1
  obtain ⟨hdef, hsz, s, t, E, h0, h4, h9, h6, hk, hs, ht, hB0, hid⟩ := hx
  obtain ⟨tm, d⟩ := x
  simp only at hdef hsz h0 h4 h9 h6
  subst hdef
  obtain ⟨t', rfl⟩ := arr150 tm hsz
  have e0 : t' 0 = .string s := by simpa using h0
  have e4 : t' 4 = .pointer (some ⟨B, 0, none⟩) := by simpa using h4
  have e9 : t' 9 = .int .i64 E := by simpa using h9
  have e6 : t' 6 = .string t := by simpa using h6 trivial
  rw [e0, e4, e6, e9]
  clear h0 h4 h6 h9 e0 e4 e6 e9 hsz
  obtain ⟨hb, hr⟩ := hid.out
  have HB := Lib.hid hb
  have HK := Lib.hid hk
  have HS := Lib.hid hs
  clear hid hb hk
  rw [if_pos rfl] at hr
  rcases hr with ⟨hE, hR⟩ | ⟨rfl, st, hst, hrun, hsome⟩
  · have q1 : (E == 0) = false := by simpa using hE
    have q2 : (E != 0) = true := by simpa using hE
    have HF : Hid (ParsedP w0 R (.returned (.tuple #[.slice none 0 0, .int .i64 E])) wr) := Lib.hid (by
      subst hR
      exact ⟨_, rfl, HB.out, pkgs_none _ _⟩)
    clear hE hR
    go_wp2_with fail
    dsimp only [leap, Exit.noGoto, Exit.inBlock, Exit.then]
    exact bodyPost_ret (v := .tuple #[.slice none 0 0, .int .i64 E]) (by simp [results, Tryz.results7, go_sem]) rfl HF.out
  · have hc := hsome (by simp)
    clear hsome
    by_cases hz : s.size = 0
    · have HF : Hid (ParsedP w0 R (.returned (.tuple #[.slice none 0 0, .int .i64 130])) wr) := Lib.hid (by
        rw [linesB_e hz, runB_nil] at hrun
        subst hrun
        exact ⟨_, rfl, HB.out, pkgs_none _ _⟩)
      obtain rfl := empty_b hz
      clear hz hrun hst
      go_wp2_with fail
      dsimp only [leap, Exit.noGoto, Exit.inBlock, Exit.then]
      exact bodyPost_ret (v := .tuple #[.slice none 0 0, .int .i64 130]) (by simp [results, Tryz.results7, go_sem]) rfl HF.out
    · rw [linesB_ne hz, runB_cons] at hrun
      have HCUT := Lib.hid (fun W => cut1_c s 10 (by have : 40000 ≤ maxLen := by decide
                                                     omega) W)
      have hls := line_size s
      have hrs := rest_size hz
      rw [lineOf_cut, restOf_cut] at HCUT
      have hne : (s.toList == ([] : List UInt8)) = false := by
        have := nil_ne (l := bs s) (fun e => hz (by rw [← bs_length, e]; rfl))
        rwa [mkB_bs] at this
      have hne3 : s.toList.isEmpty = false := by
        have := nil_ne3 (l := bs s) (fun e => hz (by rw [← bs_length, e]; rfl))
        rwa [mkB_bs] at this
      generalize lineOf (bs s) = ln at hrun HCUT hls
      generalize restOf (bs s) = rs at hrun HCUT hrs
      have HRUN := Lib.hid hrun
      have HST := Lib.hid hst
      have HLS := Lib.hid hls
      have HRS := Lib.hid hrs
      have HC := Lib.hid hc
      have HZ := Lib.hid hz
      have HLT : Hid ((mkB rs).size < k ∧ (mkB rs).size ≤ 40000) := Lib.hid (by have := HK.out; omega)
      clear hrun hst hls hrs hc hz
      have hm : 40000 ≤ maxLen := by decide
      have HM := Lib.hid hm
      clear hm
      have HBG := Lib.hid (fun W => begins_c (mkB ln) 45 W)
      rw [bs_mkB] at HBG
      obtain ⟨hb0, hbE⟩ : ∃ f, (ln.head? == some 45) = f := ⟨_, rfl⟩
      rw [hbE] at HBG
      have HBE := Lib.hid hbE
      clear hbE
      go_upto_if 125 with (first
        | (go_at_call 14; refine (HCUT.out _).mono ?_; rintro e w1 ⟨rfl, hb1⟩; have HB1 := Lib.hid hb1; clear hb1)
        | (go_at_call 20; refine (HBG.out _).mono ?_; rintro e w2 ⟨rfl, hw2⟩; obtain rfl : w1 = w2 := hw2.symm))
      have HB01 : Hid (Below w0.heap.size w0 w1) := Lib.hid (HB.out.trans (below_to HB1.out HB.out.size))
      have HST1 : Hid (RdSt w1 w0.heap.size B M st (40000 - s.size)) := Lib.hid (HST.out.below HB1.out)
      have HRD0 : Hid (∀ W, Below w1.heap.size w1 W → closesB ln (bs t) = true → Below w0.heap.size w0 W ∧ Reads w0 W B M R none (mkB rs) 0) := Lib.hid fun W hW hcl => by
        have hrun := HRUN.out
        unfold stepB at hrun
        rw [if_pos hcl] at hrun
        exact ⟨HB01.out.trans (below_to hW HB01.out.size), .inr ⟨rfl, st, (HST1.out.below hW).more (by have := HRS.out; omega), hrun, fun h => absurd rfl h⟩⟩
      go_cut [10] from 10 (fun _ wx => Hid (Below w1.heap.size w1 wx ∧ closesB ln (bs t) = false))
      case first =>
        cases hb0 with
        | true =>
          have hh : ln.head? = some 45 := by simpa using HBE.out
          have h1 : 1 ≤ (mkB ln).size := by
            show 1 ≤ ln.length
            cases ln with
            | nil => cases hh
            | cons c l => simp
          have HTAG := Lib.hid (tag_c (mkB ln) h1 (by have := HLS.out; have := HS.out; omega) w1)
          rw [bs_mkB] at HTAG
          have HH := Lib.hid hh
          clear hh h1
          cases ht2 : tagOf ln with
          | none =>
            have HCL : Hid (closesB ln (bs t) = false) := Lib.hid (by
              unfold closesB
              rw [HH.out, ht2]
              rfl)
            rw [ht2] at HTAG
            clear ht2
            go_wp2_with (go_at_call 16; refine HTAG.out.mono ?_; rintro e w3 ⟨⟨a, b, rfl, _⟩, hb3⟩; have HB3 := Lib.hid hb3; clear hb3)
            go_meet
            case rel => exact Lib.hid ⟨HB3.out, HCL.out⟩
          | some y =>
            obtain ⟨n, b⟩ := y
            rw [ht2] at HTAG
            by_cases hn : n = bs t
            · subst hn
              have q1 := same_of (a := bs t) rfl
              rw [mkB_bs] at q1
              have HTRB := Lib.hid (fun W => trim_c (mkB b) (by
                have h1 : b.length ≤ ln.length := (tagOf_len ht2).2
                have h2 : (mkB b).size = b.length := rfl
                have h3 : (mkB ln).size = ln.length := rfl
                have := HLS.out
                have := HS.out
                have := HM.out
                omega) W)
              rw [bs_mkB] at HTRB
              by_cases hb0 : trimT b = []
              · have HCL : Hid (closesB ln (bs t) = true) := Lib.hid (by
                  unfold closesB
                  rw [HH.out, ht2]
                  show (bs t == bs t && trimT b == []) = true
                  rw [hb0]
                  simp)
                rw [hb0] at HTRB
                have HTE : mkB [] = ⟨#[]⟩ := rfl
                rw [HTE] at HTRB
                clear ht2 hb0 HTE
                go_wp2_with (first
                  | (go_at_call 16; refine HTAG.out.mono ?_; rintro e w3 ⟨⟨a, b', rfl, hab⟩, hb3⟩; obtain ⟨rfl, rfl⟩ := hab _ rfl; have HB3 := Lib.hid hb3; clear hb3)
                  | (go_at_call 15; refine (HTRB.out _).mono ?_; rintro e w4 ⟨rfl, hb4⟩; have HB4 := Lib.hid hb4; clear hb4))
                go_step3
                go_wp2_with fail
                exact .inl ⟨rfl, _, HLT.out.1, rfl, rfl, mkB rs, ⟨#[]⟩, 0, rfl, rfl, rfl, fun h => absurd h (by decide), rfl, HLT.out.2, by decide, hB0, Lib.hid (HRD0.out _ (below_tr HB3.out HB4.out) HCL.out)⟩
              · have HCL : Hid (closesB ln (bs t) = false) := Lib.hid (by
                  unfold closesB
                  rw [HH.out, ht2]
                  show (bs t == bs t && trimT b == []) = false
                  rw [beq_eq_false_iff_ne.2 hb0]
                  simp)
                have q2 := nil_ne hb0
                have q3 := nil_ne3 hb0
                clear ht2 hb0
                go_wp2_with (first
                  | (go_at_call 16; refine HTAG.out.mono ?_; rintro e w3 ⟨⟨a, b', rfl, hab⟩, hb3⟩; obtain ⟨rfl, rfl⟩ := hab _ rfl; have HB3 := Lib.hid hb3; clear hb3)
                  | (go_at_call 15; refine (HTRB.out _).mono ?_; rintro e w4 ⟨rfl, hb4⟩; have HB4 := Lib.hid hb4; clear hb4))
                go_meet
                case rel => exact Lib.hid ⟨below_tr HB3.out HB4.out, HCL.out⟩
            · have HCL : Hid (closesB ln (bs t) = false) := Lib.hid (by
                unfold closesB
                rw [HH.out, ht2]
                show (n == bs t && trimT b == []) = false
                rw [beq_eq_false_iff_ne.2 hn]
                rfl)
              have q1 := same_not hn
              rw [mkB_bs] at q1
              clear ht2
              go_wp2_with (go_at_call 16; refine HTAG.out.mono ?_; rintro e w3 ⟨⟨a, b', rfl, hab⟩, hb3⟩; obtain ⟨rfl, rfl⟩ := hab _ rfl; have HB3 := Lib.hid hb3; clear hb3)
              go_meet
              case rel => exact Lib.hid ⟨HB3.out, HCL.out⟩
        | false =>
          have hh : ¬ ln.head? = some 45 := by simpa using HBE.out
          have HCL : Hid (closesB ln (bs t) = false) := Lib.hid (by
            unfold closesB
            split
            · rename_i h _
              exact absurd h hh
            · rfl)
          clear hh
          go_wp2_with fail
          go_meet
          case rel => exact Lib.hid ⟨Below.refl _ _, HCL.out⟩
      case rest =>
        obtain ⟨hbc, hcl⟩ := hcut.out
        have HBC := Lib.hid hbc
        have HSTC : Hid (RdSt wc w0.heap.size B M st (40000 - s.size)) := Lib.hid (HST1.out.below hbc)
        have HBC0 : Hid (Below w0.heap.size w0 wc) := Lib.hid (HB01.out.trans (below_to hbc HB01.out.size))
        have hrun := HRUN.out
        unfold stepB at hrun
        rw [if_neg (by rw [hcl]; decide)] at hrun
        have HTR := Lib.hid (trim_c (mkB ln) (by have := HLS.out; have := HS.out; have := HM.out; omega) wc)
        rw [bs_mkB] at HTR
        clear hcut hbc hcl HRUN HRD0
        by_cases h0 : trimT ln = []
        · rw [if_pos h0] at hrun
          have HRD : Hid (∀ W, Below wc.heap.size wc W → Below w0.heap.size w0 W ∧ Reads w0 W B M R (some (bs t)) (mkB rs) 0) := Lib.hid fun W hW =>
            ⟨HBC0.out.trans (below_to hW HBC0.out.size), .inr ⟨rfl, st, (HSTC.out.below hW).more (by have := HRS.out; omega), hrun, fun _ => HC.out⟩⟩
          rw [h0] at HTR
          have HTE : mkB [] = ⟨#[]⟩ := rfl
          rw [HTE] at HTR
          clear hrun h0 HTE
          go_wp2_with (go_at_call 15; refine HTR.out.mono ?_; rintro e w4 ⟨rfl, hb4⟩; have HB4 := Lib.hid hb4; clear hb4)
          go_step3
          go_wp2_with fail
          exact .inr ⟨rfl, _, HLT.out.1, rfl, rfl, mkB rs, t, 0, rfl, rfl, rfl, fun _ => rfl, rfl, HLT.out.2, ht, hB0, Lib.hid (HRD.out _ HB4.out)⟩
        · rw [if_neg h0] at hrun
          have q2 := nil_ne2 h0
          have q3 := nil_ne3 h0
          have HPUT := Lib.hid (fun W hW => put_c (HSTC.out.below (w' := W) hW) HC.out (by omega) t (mkB ln) ht (by have := HLS.out; have := HS.out; omega))
          rw [bs_mkB] at HPUT
          have HPE : Hid (∀ x, putS st (bs t) ln = .err x → x ≠ 0) := Lib.hid (fun x h => by rw [put_err h]; decide)
          have HPS : Hid (∀ st', putS st (bs t) ln = .ok st' → st'.cur.isSome = true) := Lib.hid (fun st' h => by
            obtain ⟨_, _, h3⟩ := put_ok h
            cases e : st.cur with
            | none =>
              have := HC.out
              rw [e] at this
              cases this
            | some p =>
              obtain ⟨q, _, h4⟩ := h3 p e
              rw [h4]
              rfl)
          generalize putS st (bs t) ln = r at HPUT HPE HPS hrun
          cases r with
          | err xe =>
            have hxe := HPE.out xe rfl
            have HRD : Hid (∀ W, Below w0.heap.size w0 W → Reads w0 W B M R (some (bs t)) (mkB rs) xe) := Lib.hid fun W _ => .inl ⟨hxe, hrun.symm⟩
            clear hrun HPE HPS
            go_wp2_with (first
              | (go_at_call 15; refine HTR.out.mono ?_; rintro e w4 ⟨rfl, hb4⟩; have HB4 := Lib.hid hb4; clear hb4)
              | (go_at_call 19; refine (HPUT.out _ HB4.out).mono ?_; rintro e w5 ⟨hb5, rfl⟩; have HB5 := Lib.hid hb5; clear hb5))
            go_step3
            go_wp2_with fail
            exact .inr ⟨rfl, _, HLT.out.1, rfl, rfl, mkB rs, t, xe, rfl, rfl, rfl, fun _ => rfl, rfl, HLT.out.2, ht, hB0, Lib.hid ⟨HBC0.out.trans ((below_to HB4.out HBC0.out.size).trans HB5.out), HRD.out _ (HBC0.out.trans ((below_to HB4.out HBC0.out.size).trans HB5.out))⟩⟩
          | ok st' =>
            have hcur := HPS.out st' rfl
            have HRD : Hid (∀ W, RdSt W w0.heap.size B M st' (40000 - s.size + 1) → Reads w0 W B M R (some (bs t)) (mkB rs) 0) := Lib.hid fun W hW => .inr ⟨rfl, st', hW.more (by have := HRS.out; have := HS.out; omega), hrun, fun _ => hcur⟩
            clear hrun HPE HPS
            go_wp2_with (first
              | (go_at_call 15; refine HTR.out.mono ?_; rintro e w4 ⟨rfl, hb4⟩; have HB4 := Lib.hid hb4; clear hb4)
              | (go_at_call 19; refine (HPUT.out _ HB4.out).mono ?_; rintro e w5 ⟨hb5, rfl, hst5⟩; have HB5 := Lib.hid hb5; have HST5 := Lib.hid hst5; clear hb5 hst5))
            go_step3
            go_wp2_with fail
            exact .inr ⟨rfl, _, HLT.out.1, rfl, rfl, mkB rs, t, 0, rfl, rfl, rfl, fun _ => rfl, rfl, HLT.out.2, ht, hB0, Lib.hid ⟨HBC0.out.trans ((below_to HB4.out HBC0.out.size).trans HB5.out), HRD.out _ HST5.out⟩⟩
end Go.Proofs.YtjcefgjgjhdbpaaGreatDoor
