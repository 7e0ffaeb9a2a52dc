/-
  What may be a key: the runes of ':._-' looked for. Helper text; the conditions are those typed.
-/
import Derived.Test.YtnplmembdfklcaaDoorNewA
import Derived.Test.YtnplmembdfklcaaDoorShelf
import Derived.Shelf.Strings.FuncGrows
import Derived.Shelf.Small.Strs
import Derived.Laws.Runes
import Derived.Test.YtnplmembdfklcaaDoorQuietTail
import Derived.Deep.LoopGhost
namespace Go.Proofs.YtnplmembdfklcaaDoor
set_option linter.unusedVariables false
set_option linter.unusedSimpArgs false
open Go.RowKit Go.Shelf

/-- ':._-' -/
def marks : ByteArray := ⟨#[58, 46, 95, 45]⟩
theorem marks_dec (pos : Nat) (h : pos < 4) : (Utf8.decode marks pos).1 ≠ 65533 ∧ (Utf8.decode marks pos).2 = 1 := by
  match pos, h with
  | 0, _ => exact ⟨by decide, by decide⟩
  | 1, _ => exact ⟨by decide, by decide⟩
  | 2, _ => exact ⟨by decide, by decide⟩
  | 3, _ => exact ⟨by decide, by decide⟩

theorem valid_c (r : Int) (w : World) : Calls Tryd.prog 80 #[.int .i32 r] w fun e w' => e = .returned (.bool (validRune r)) ∧ w' = w := by
  have H : (0 ≤ r ∧ r < 55296 ∧ validRune r = true) ∨ (0 ≤ r ∧ ¬ r < 55296 ∧ 57343 < r ∧ r ≤ 1114111 ∧ validRune r = true) ∨ (0 ≤ r ∧ ¬ r < 55296 ∧ 57343 < r ∧ ¬ r ≤ 1114111 ∧ validRune r = false) ∨ (0 ≤ r ∧ ¬ r < 55296 ∧ ¬ 57343 < r ∧ validRune r = false) ∨ (¬ 0 ≤ r ∧ ¬ 57343 < r ∧ validRune r = false) := by
    unfold validRune
    by_cases h : (0 ≤ r ∧ r < 55296) ∨ (57343 < r ∧ r ≤ 1114111)
    · rw [decide_eq_true h]
      rcases h with h | h
      · exact .inl ⟨h.1, h.2, rfl⟩
      · exact .inr (.inl ⟨by omega, by omega, h.1, h.2, rfl⟩)
    · rw [decide_eq_false h]
      by_cases h0 : 0 ≤ r
      · by_cases h1 : 57343 < r
        · exact .inr (.inr (.inl ⟨h0, by omega, h1, by omega, rfl⟩))
        · exact .inr (.inr (.inr (.inl ⟨h0, by omega, h1, rfl⟩)))
      · exact .inr (.inr (.inr (.inr ⟨h0, by omega, rfl⟩)))
  generalize validRune r = x at H
  rcases H with ⟨h0, h1, rfl⟩ | ⟨h0, h1, h2, h3, rfl⟩ | ⟨h0, h1, h2, h3, rfl⟩ | ⟨h0, h1, h2, rfl⟩ | ⟨h0, h1, rfl⟩
  all_goals
    go_enter Tryd.func80, Tryd.ntmps80
    go_wp2_with fail
    go_ret
    exact ⟨rfl, rfl⟩

theorem inBlock_ret2 (n : Nat) (Q : Exit → Act → World → Prop) (a : Act) (w : World) : Exit.inBlock n Q .ret a w = Q .ret a w := rfl
set_option maxHeartbeats 4000000 in
set_option maxRecDepth 100000 in
/-- A rune that is not ASCII is not there. -/
theorem indexRune_far (r : Int) (h : 128 ≤ r) (w : World) :
    Calls Tryd.prog 58 #[.string marks, .int .i32 r] w fun e w' => e = .returned (.int .i64 (-1)) ∧ Below w.heap.size w w' := by
  have h0 : 0 ≤ r := by omega
  have h1 : ¬ r < 128 := by omega
  by_cases hbad : r = 65533
  · subst hbad
    have hbe : ((65533 : Int) == 65533) = true := rfl
    go_enter Tryd.func58, Tryd.ntmps58
    go_wp2_with fail
    go_loopg [5, 6] 4 (fun gf v5 v6 wx => ∃ pos : Nat, wx.heap[w.heap.size]? = some (.stringIter marks pos) ∧ Below w.heap.size w wx ∧ 4 ≤ pos + gf)
    case atStart => exact ⟨0, World.iter_heap w marks 0, (Below.refl _ w).alloc (Nat.le_refl _) _, by omega⟩
    case round =>
      obtain ⟨pos, hit, hbw, hfu⟩ := hrel
      by_cases hps : pos < marks.size
      · have hps4 : pos < 4 := hps
        obtain ⟨g', rfl⟩ : ∃ g', gk = g' + 1 := ⟨gk - 1, by omega⟩
        have hnx : ∀ ty, (Instr.next (.pointer (some ⟨w.heap.size, 0, none⟩)) true ty).run Tryd.prog wr = _ := fun ty => Lib.run_next_any_at wr w.heap.size marks pos ty hit hps
        obtain ⟨hR, hK⟩ := marks_dec pos hps4
        rw [hK] at hnx
        generalize (Utf8.decode marks pos).1 = R at hnx hR
        have hRb : ((R : Int) == 65533) = false := by
          rw [beq_eq_false_iff_ne]
          intro e
          exact hR (by omega)
        have hit2 := Lib.iterAt_heap wr w.heap.size marks pos (pos + 1) hit
        have hbw2 := Lib.below_iterAt hbw (k := w.heap.size) (Nat.le_refl _) marks (pos + 1)
        obtain ⟨W, hWd⟩ : ∃ W, wr.iterAt w.heap.size marks (pos + 1) = W := ⟨_, rfl⟩
        rw [hWd] at hnx hit2 hbw2
        replace hR := Lib.hid hR
        go_wp2_with fail
        go_roundg g'
        case measure => omega
        case rel => exact ⟨pos + 1, hit2, hbw2, by omega⟩
      · have hnx : ∀ ty, (Instr.next (.pointer (some ⟨w.heap.size, 0, none⟩)) true ty).run Tryd.prog wr = _ := fun ty => Lib.run_next_end_at wr w.heap.size marks pos ty hit hps
        go_wp2_with fail
        go_ret
        exact ⟨rfl, hbw⟩
  · have hbe : (r == 65533) = false := by simpa using hbad
    have HV := Lib.hid (fun w => valid_c r w)
    by_cases hv : validRune r = true
    · obtain ⟨e1, e2, e3⟩ := encode_facts r (by rw [validRune_eq]; exact hv) h
      rw [hv] at HV
      have hconv : ∀ w, (convert 21 9 (.int .i32 r)).run Tryd.prog w = .ok (.string (Utf8.encode r)) w := fun w => run_convert_int_string w 21 9 .i32 r (by rw [Tryd.underlying21]; rfl) Tryd.underlying9
      have hE : (∃ a b, Utf8.encode r = ⟨#[a, b]⟩ ∧ 128 ≤ b.toNat) ∨ (∃ a a1 b, Utf8.encode r = ⟨#[a, a1, b]⟩ ∧ 128 ≤ b.toNat) ∨ (∃ a a1 a2 b, Utf8.encode r = ⟨#[a, a1, a2, b]⟩ ∧ 128 ≤ b.toNat) := by
        generalize Utf8.encode r = E at e1 e2 e3
        obtain ⟨⟨l⟩⟩ := E
        match l, e1, e2, e3 with
        | [], e1, _, _ => exact absurd e1 (by show ¬ 2 ≤ 0; omega)
        | [_], e1, _, _ => exact absurd e1 (by show ¬ 2 ≤ 1; omega)
        | [a, b], _, _, e3 => exact .inl ⟨a, b, rfl, e3 (by show 1 < 2; omega)⟩
        | [a, a1, b], _, _, e3 => exact .inr (.inl ⟨a, a1, b, rfl, e3 (by show 2 < 3; omega)⟩)
        | [a, a1, a2, b], _, _, e3 => exact .inr (.inr ⟨a, a1, a2, b, rfl, e3 (by show 3 < 4; omega)⟩)
        | _ :: _ :: _ :: _ :: _ :: l, _, e2, _ => exact absurd e2 (by show ¬ (l.length + 5) ≤ 4; omega)
      clear e1 e2 e3
      have HIX : Hid (∀ (b : UInt8) (s : ByteArray) (w : World), 128 ≤ b.toNat → (∀ x ∈ s.data.toList, x.toNat < 128) → Calls Tryd.prog 79 #[.string s, .int .u8 (b.toNat : Int)] w fun e w' => e = .returned (.int .i64 (-1)) ∧ w' = w) := fun b s w hb hs => by
        have h1 := Any.strings_IndexByte (P := Tryd.prog) (ρ := Tryd.layHasRune_ren) { Tryd.layHasRune with } s (b.toNat : Int) w
        have h2 : Lib.indexByte s.data.toList ((b.toNat : Int).toNat.toUInt8) = -1 := by
          have hbb : ((b.toNat : Int).toNat.toUInt8) = b := by simp
          rw [hbb]
          have hge := Lib.indexByte_ge s.data.toList b
          by_cases h : Lib.indexByte s.data.toList b = -1
          · exact h
          · obtain ⟨o, ho⟩ : ∃ o : Nat, Lib.indexByte s.data.toList b = o := ⟨(Lib.indexByte s.data.toList b).toNat, by omega⟩
            have := (Lib.indexByte_some ho).1
            have hm := hs b (List.mem_of_getElem? this)
            omega
        rw [h2] at h1
        exact h1
      rcases hE with ⟨a, b, he, hb⟩ | ⟨a, a1, b, he, hb⟩ | ⟨a, a1, a2, b, he, hb⟩
      · rw [he] at hconv
        have hne : (((marks[1]'(by decide)).toNat : Int) != (((⟨#[a, b]⟩ : ByteArray)[1]'(by show 1 < 2; omega)).toNat : Int)) = true := by
          have h1 : (marks[1]'(by decide)).toNat < 128 := by decide
          have h2 : ((⟨#[a, b]⟩ : ByteArray)[1]'(by show 1 < 2; omega)) = b := rfl
          rw [h2]
          simp
          omega
        have hsz : marks.size = 4 := rfl
        have hwr : IntKind.i64.wrap 2 = 2 := by decide
        have HI : Hid (∀ (i j : Nat) (w : World), Calls Tryd.prog 79 #[.string (marks.extract i j), .int .u8 ((((⟨#[a, b]⟩ : ByteArray)[1]'(by show 1 < 2; omega)).toNat : Nat) : Int)] w fun e w' => e = .returned (.int .i64 (-1)) ∧ w' = w) := fun i j w => by
          rw [show ((⟨#[a, b]⟩ : ByteArray)[1]'(by show 1 < 2; omega)) = b from rfl]
          exact HIX.out b (marks.extract i j) w hb (fun x hx => (by decide : ∀ x ∈ marks.data.toList, x.toNat < 128) x (mem_extract hx))
        replace he := Lib.hid he
        clear HIX
        go_enter Tryd.func58, Tryd.ntmps58
        go_wp2_with (go_at_call 80; refine (HV.out _).mono ?_; rintro e w' ⟨rfl, rfl⟩)
        go_step3
        go_wp2_with fail
        go_loopw [9] (fun v9 wx => v9 = .int .i64 1 ∧ wx = w') (fun _ _ => 0)
        case atStart => exact ⟨rfl, rfl⟩
        case round =>
          obtain ⟨rfl, rfl⟩ := hrel
          have HBB : Hid (∀ q, Below wr.heap.size wr (wr.drewN q)) := fun q => below_dr (Below.refl _ _) q
          go_upto_region 6 with fail
          go_step3
          go_upto_region 6 with fail
          go_quiet (fail)
          have HQ := HBB.out nq
          generalize wr.drewN nq = wq at HQ ⊢
          replace HQ := Lib.hid HQ
          go_upto_region 7 with fail
          go_quiet ((go_at_call 79; exact Calls.quiet_of_same ((HI.out _ _ _).mono fun _ _ h => ⟨h.1, h.2⟩)))
          go_wp2_with fail
          dsimp +zetaDelta only [Exit.noGoto, Exit.inBlock, Exit.then]
          go_ret
          exact ⟨rfl, below_dr HQ.out _⟩
      · rw [he] at hconv
        have hne : (((marks[2]'(by decide)).toNat : Int) != (((⟨#[a, a1, b]⟩ : ByteArray)[2]'(by show 2 < 3; omega)).toNat : Int)) = true := by
          have h1 : (marks[2]'(by decide)).toNat < 128 := by decide
          have h2 : ((⟨#[a, a1, b]⟩ : ByteArray)[2]'(by show 2 < 3; omega)) = b := rfl
          rw [h2]
          simp
          omega
        have hsz : marks.size = 4 := rfl
        have hwr : IntKind.i64.wrap 3 = 3 := by decide
        have HI : Hid (∀ (i j : Nat) (w : World), Calls Tryd.prog 79 #[.string (marks.extract i j), .int .u8 ((((⟨#[a, a1, b]⟩ : ByteArray)[2]'(by show 2 < 3; omega)).toNat : Nat) : Int)] w fun e w' => e = .returned (.int .i64 (-1)) ∧ w' = w) := fun i j w => by
          rw [show ((⟨#[a, a1, b]⟩ : ByteArray)[2]'(by show 2 < 3; omega)) = b from rfl]
          exact HIX.out b (marks.extract i j) w hb (fun x hx => (by decide : ∀ x ∈ marks.data.toList, x.toNat < 128) x (mem_extract hx))
        replace he := Lib.hid he
        clear HIX
        go_enter Tryd.func58, Tryd.ntmps58
        go_wp2_with (go_at_call 80; refine (HV.out _).mono ?_; rintro e w' ⟨rfl, rfl⟩)
        go_step3
        go_wp2_with fail
        go_loopw [9] (fun v9 wx => v9 = .int .i64 2 ∧ wx = w') (fun _ _ => 0)
        case atStart => exact ⟨rfl, rfl⟩
        case round =>
          obtain ⟨rfl, rfl⟩ := hrel
          have HBB : Hid (∀ q, Below wr.heap.size wr (wr.drewN q)) := fun q => below_dr (Below.refl _ _) q
          go_upto_region 6 with fail
          go_step3
          go_upto_region 6 with fail
          go_quiet (fail)
          have HQ := HBB.out nq
          generalize wr.drewN nq = wq at HQ ⊢
          replace HQ := Lib.hid HQ
          go_upto_region 7 with fail
          go_quiet ((go_at_call 79; exact Calls.quiet_of_same ((HI.out _ _ _).mono fun _ _ h => ⟨h.1, h.2⟩)))
          go_wp2_with fail
          dsimp +zetaDelta only [Exit.noGoto, Exit.inBlock, Exit.then]
          go_ret
          exact ⟨rfl, below_dr HQ.out _⟩
      · rw [he] at hconv
        have hne : (((marks[3]'(by decide)).toNat : Int) != (((⟨#[a, a1, a2, b]⟩ : ByteArray)[3]'(by show 3 < 4; omega)).toNat : Int)) = true := by
          have h1 : (marks[3]'(by decide)).toNat < 128 := by decide
          have h2 : ((⟨#[a, a1, a2, b]⟩ : ByteArray)[3]'(by show 3 < 4; omega)) = b := rfl
          rw [h2]
          simp
          omega
        have hsz : marks.size = 4 := rfl
        have hwr : IntKind.i64.wrap 4 = 4 := by decide
        have HI : Hid (∀ (s : ByteArray) (w : World), (∀ x ∈ s.data.toList, x.toNat < 128) → Calls Tryd.prog 79 #[.string s, .int .u8 ((((⟨#[a, a1, a2, b]⟩ : ByteArray)[3]'(by show 3 < 4; omega)).toNat : Nat) : Int)] w fun e w' => e = .returned (.int .i64 (-1)) ∧ w' = w) := fun s w hs => by
          rw [show ((⟨#[a, a1, a2, b]⟩ : ByteArray)[3]'(by show 3 < 4; omega)) = b from rfl]
          exact HIX.out b s w hb hs
        replace he := Lib.hid he
        clear HIX
        go_enter Tryd.func58, Tryd.ntmps58
        go_wp2_with (go_at_call 80; refine (HV.out _).mono ?_; rintro e w' ⟨rfl, rfl⟩)
        go_step3
        go_wp2_with fail
        go_loopw [9] (fun v9 wx => v9 = .int .i64 3 ∧ wx = w') (fun _ _ => 0)
        case atStart => exact ⟨rfl, rfl⟩
        case round =>
          obtain ⟨rfl, rfl⟩ := hrel
          have HBB : Hid (∀ q, Below wr.heap.size wr (wr.drewN q)) := fun q => below_dr (Below.refl _ _) q
          go_upto_region 6 with fail
          go_step3
          go_upto_region 6 with fail
          go_quiet (fail)
          have HQ := HBB.out nq
          generalize wr.drewN nq = wq at HQ ⊢
          replace HQ := Lib.hid HQ
          go_upto_region 7 with fail
          go_quiet ((go_at_call 79; exact Calls.quiet_of_same ((HI.out _ _ (by decide)).mono fun _ _ h => ⟨h.1, h.2⟩)))
          go_wp2_with fail
          dsimp +zetaDelta only [Exit.noGoto, Exit.inBlock, Exit.then]
          go_ret
          exact ⟨rfl, below_dr HQ.out _⟩
    · have hv' : validRune r = false := by simpa using hv
      rw [hv'] at HV
      go_enter Tryd.func58, Tryd.ntmps58
      go_wp2_with (go_at_call 80; refine (HV.out _).mono ?_; rintro e w' ⟨rfl, rfl⟩)
      go_ret
      exact ⟨rfl, Below.refl _ _⟩
end Go.Proofs.YtnplmembdfklcaaDoor
