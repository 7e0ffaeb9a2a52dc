/-
  What may be a key: the runes of ':._-' looked for. Helper text; the conditions are those typed.
  What may be a key, what may be a value: the walks. Helper text; the conditions are those typed.
-/
import Derived.Test.YtnplmembdfklcaaGreatDoorNewA
import Derived.Test.YtnplmembdfklcaaGreatDoorShelf
import Derived.Shelf.Strings.FuncGrows
import Derived.Shelf.Small.Strs
import Derived.Laws.Runes
import Derived.Test.YtnplmembdfklcaaGreatDoorQuietTail
import Derived.Deep.LoopGhost
import Derived.Shelf.Strings.Runes
import Derived.Shelf.Slices.Clone
import Derived.Shelf.SlicesE.IndexFunc
namespace Go.Proofs.YtnplmembdfklcaaGreatDoor
set_option linter.unusedVariables false
set_option linter.unusedSimpArgs false
open Go.RowKit Go.Shelf

/-- ':._-' -/
def marks : ByteArray := ⟨#[58, 46, 95, 45]⟩
theorem marks_dec (pos : Nat) (h : pos < 4) : (Utf8.decode marks pos).1 ≠ 65533 ∧ (Utf8.decode marks pos).2 = 1 := by
  match pos, h with
  | 0, _ => exact ⟨by decide, by decide⟩
  | 1, _ => exact ⟨by decide, by decide⟩
  | 2, _ => exact ⟨by decide, by decide⟩
  | 3, _ => exact ⟨by decide, by decide⟩

theorem valid_c (r : Int) (w : World) : Calls Tryz.prog 119 #[.int .i32 r] w fun e w' => e = .returned (.bool (validRune r)) ∧ w' = w := by
  have H : (0 ≤ r ∧ r < 55296 ∧ validRune r = true) ∨ (0 ≤ r ∧ ¬ r < 55296 ∧ 57343 < r ∧ r ≤ 1114111 ∧ validRune r = true) ∨ (0 ≤ r ∧ ¬ r < 55296 ∧ 57343 < r ∧ ¬ r ≤ 1114111 ∧ validRune r = false) ∨ (0 ≤ r ∧ ¬ r < 55296 ∧ ¬ 57343 < r ∧ validRune r = false) ∨ (¬ 0 ≤ r ∧ ¬ 57343 < r ∧ validRune r = false) := by
    unfold validRune
    by_cases h : (0 ≤ r ∧ r < 55296) ∨ (57343 < r ∧ r ≤ 1114111)
    · rw [decide_eq_true h]
      rcases h with h | h
      · exact .inl ⟨h.1, h.2, rfl⟩
      · exact .inr (.inl ⟨by omega, by omega, h.1, h.2, rfl⟩)
    · rw [decide_eq_false h]
      by_cases h0 : 0 ≤ r
      · by_cases h1 : 57343 < r
        · exact .inr (.inr (.inl ⟨h0, by omega, h1, by omega, rfl⟩))
        · exact .inr (.inr (.inr (.inl ⟨h0, by omega, h1, rfl⟩)))
      · exact .inr (.inr (.inr (.inr ⟨h0, by omega, rfl⟩)))
  generalize validRune r = x at H
  rcases H with ⟨h0, h1, rfl⟩ | ⟨h0, h1, h2, h3, rfl⟩ | ⟨h0, h1, h2, h3, rfl⟩ | ⟨h0, h1, h2, rfl⟩ | ⟨h0, h1, rfl⟩
  all_goals
    go_enter Tryz.func119, Tryz.ntmps119
    go_wp2_with fail
    go_ret
    exact ⟨rfl, rfl⟩

theorem inBlock_ret2 (n : Nat) (Q : Exit → Act → World → Prop) (a : Act) (w : World) : Exit.inBlock n Q .ret a w = Q .ret a w := rfl
set_option maxHeartbeats 4000000 in
set_option maxRecDepth 100000 in
/-- A rune that is not ASCII is not there. -/
theorem indexRune_far (r : Int) (h : 128 ≤ r) (w : World) :
    Calls Tryz.prog 89 #[.string marks, .int .i32 r] w fun e w' => e = .returned (.int .i64 (-1)) ∧ Below w.heap.size w w' := by
  have h0 : 0 ≤ r := by omega
  have h1 : ¬ r < 128 := by omega
  by_cases hbad : r = 65533
  · subst hbad
    have hbe : ((65533 : Int) == 65533) = true := rfl
    go_enter Tryz.func89, Tryz.ntmps89
    go_wp2_with fail
    go_loopg [5, 6] 4 (fun gf v5 v6 wx => ∃ pos : Nat, wx.heap[w.heap.size]? = some (.stringIter marks pos) ∧ Below w.heap.size w wx ∧ 4 ≤ pos + gf)
    case atStart => exact ⟨0, World.iter_heap w marks 0, (Below.refl _ w).alloc (Nat.le_refl _) _, by omega⟩
    case round =>
      obtain ⟨pos, hit, hbw, hfu⟩ := hrel
      by_cases hps : pos < marks.size
      · have hps4 : pos < 4 := hps
        obtain ⟨g', rfl⟩ : ∃ g', gk = g' + 1 := ⟨gk - 1, by omega⟩
        have hnx : ∀ ty, (Instr.next (.pointer (some ⟨w.heap.size, 0, none⟩)) true ty).run Tryz.prog wr = _ := fun ty => Lib.run_next_any_at wr w.heap.size marks pos ty hit hps
        obtain ⟨hR, hK⟩ := marks_dec pos hps4
        rw [hK] at hnx
        generalize (Utf8.decode marks pos).1 = R at hnx hR
        have hRb : ((R : Int) == 65533) = false := by
          rw [beq_eq_false_iff_ne]
          intro e
          exact hR (by omega)
        have hit2 := Lib.iterAt_heap wr w.heap.size marks pos (pos + 1) hit
        have hbw2 := Lib.below_iterAt hbw (k := w.heap.size) (Nat.le_refl _) marks (pos + 1)
        obtain ⟨W, hWd⟩ : ∃ W, wr.iterAt w.heap.size marks (pos + 1) = W := ⟨_, rfl⟩
        rw [hWd] at hnx hit2 hbw2
        replace hR := Lib.hid hR
        go_wp2_with fail
        go_roundg g'
        case measure => omega
        case rel => exact ⟨pos + 1, hit2, hbw2, by omega⟩
      · have hnx : ∀ ty, (Instr.next (.pointer (some ⟨w.heap.size, 0, none⟩)) true ty).run Tryz.prog wr = _ := fun ty => Lib.run_next_end_at wr w.heap.size marks pos ty hit hps
        go_wp2_with fail
        go_ret
        exact ⟨rfl, hbw⟩
  · have hbe : (r == 65533) = false := by simpa using hbad
    have HV := Lib.hid (fun w => valid_c r w)
    by_cases hv : validRune r = true
    · obtain ⟨e1, e2, e3⟩ := encode_facts r (by rw [validRune_eq]; exact hv) h
      rw [hv] at HV
      have hconv : ∀ w, (convert 21 9 (.int .i32 r)).run Tryz.prog w = .ok (.string (Utf8.encode r)) w := fun w => run_convert_int_string w 21 9 .i32 r (by rw [Tryz.underlying21]; rfl) Tryz.underlying9
      have hE : (∃ a b, Utf8.encode r = ⟨#[a, b]⟩ ∧ 128 ≤ b.toNat) ∨ (∃ a a1 b, Utf8.encode r = ⟨#[a, a1, b]⟩ ∧ 128 ≤ b.toNat) ∨ (∃ a a1 a2 b, Utf8.encode r = ⟨#[a, a1, a2, b]⟩ ∧ 128 ≤ b.toNat) := by
        generalize Utf8.encode r = E at e1 e2 e3
        obtain ⟨⟨l⟩⟩ := E
        match l, e1, e2, e3 with
        | [], e1, _, _ => exact absurd e1 (by show ¬ 2 ≤ 0; omega)
        | [_], e1, _, _ => exact absurd e1 (by show ¬ 2 ≤ 1; omega)
        | [a, b], _, _, e3 => exact .inl ⟨a, b, rfl, e3 (by show 1 < 2; omega)⟩
        | [a, a1, b], _, _, e3 => exact .inr (.inl ⟨a, a1, b, rfl, e3 (by show 2 < 3; omega)⟩)
        | [a, a1, a2, b], _, _, e3 => exact .inr (.inr ⟨a, a1, a2, b, rfl, e3 (by show 3 < 4; omega)⟩)
        | _ :: _ :: _ :: _ :: _ :: l, _, e2, _ => exact absurd e2 (by show ¬ (l.length + 5) ≤ 4; omega)
      clear e1 e2 e3
      have HIX : Hid (∀ (b : UInt8) (s : ByteArray) (w : World), 128 ≤ b.toNat → (∀ x ∈ s.data.toList, x.toNat < 128) → Calls Tryz.prog 118 #[.string s, .int .u8 (b.toNat : Int)] w fun e w' => e = .returned (.int .i64 (-1)) ∧ w' = w) := fun b s w hb hs => by
        have h1 := Any.strings_IndexByte (P := Tryz.prog) (ρ := Tryz.layHasRune_ren) { Tryz.layHasRune with } s (b.toNat : Int) w
        have h2 : Lib.indexByte s.data.toList ((b.toNat : Int).toNat.toUInt8) = -1 := by
          have hbb : ((b.toNat : Int).toNat.toUInt8) = b := by simp
          rw [hbb]
          have hge := Lib.indexByte_ge s.data.toList b
          by_cases h : Lib.indexByte s.data.toList b = -1
          · exact h
          · obtain ⟨o, ho⟩ : ∃ o : Nat, Lib.indexByte s.data.toList b = o := ⟨(Lib.indexByte s.data.toList b).toNat, by omega⟩
            have := (Lib.indexByte_some ho).1
            have hm := hs b (List.mem_of_getElem? this)
            omega
        rw [h2] at h1
        exact h1
      rcases hE with ⟨a, b, he, hb⟩ | ⟨a, a1, b, he, hb⟩ | ⟨a, a1, a2, b, he, hb⟩
      · rw [he] at hconv
        have hne : (((marks[1]'(by decide)).toNat : Int) != (((⟨#[a, b]⟩ : ByteArray)[1]'(by show 1 < 2; omega)).toNat : Int)) = true := by
          have h1 : (marks[1]'(by decide)).toNat < 128 := by decide
          have h2 : ((⟨#[a, b]⟩ : ByteArray)[1]'(by show 1 < 2; omega)) = b := rfl
          rw [h2]
          simp
          omega
        have hsz : marks.size = 4 := rfl
        have hwr : IntKind.i64.wrap 2 = 2 := by decide
        have HI : Hid (∀ (i j : Nat) (w : World), Calls Tryz.prog 118 #[.string (marks.extract i j), .int .u8 ((((⟨#[a, b]⟩ : ByteArray)[1]'(by show 1 < 2; omega)).toNat : Nat) : Int)] w fun e w' => e = .returned (.int .i64 (-1)) ∧ w' = w) := fun i j w => by
          rw [show ((⟨#[a, b]⟩ : ByteArray)[1]'(by show 1 < 2; omega)) = b from rfl]
          exact HIX.out b (marks.extract i j) w hb (fun x hx => (by decide : ∀ x ∈ marks.data.toList, x.toNat < 128) x (mem_extract hx))
        replace he := Lib.hid he
        clear HIX
        go_enter Tryz.func89, Tryz.ntmps89
        go_wp2_with (go_at_call 119; refine (HV.out _).mono ?_; rintro e w' ⟨rfl, rfl⟩)
        go_step3
        go_wp2_with fail
        go_loopw [9] (fun v9 wx => v9 = .int .i64 1 ∧ wx = w') (fun _ _ => 0)
        case atStart => exact ⟨rfl, rfl⟩
        case round =>
          obtain ⟨rfl, rfl⟩ := hrel
          have HBB : Hid (∀ q, Below wr.heap.size wr (wr.drewN q)) := fun q => below_dr (Below.refl _ _) q
          go_upto_region 6 with fail
          go_step3
          go_upto_region 6 with fail
          go_quiet (fail)
          have HQ := HBB.out nq
          generalize wr.drewN nq = wq at HQ ⊢
          replace HQ := Lib.hid HQ
          go_upto_region 7 with fail
          go_quiet ((go_at_call 118; exact Calls.quiet_of_same ((HI.out _ _ _).mono fun _ _ h => ⟨h.1, h.2⟩)))
          go_wp2_with fail
          dsimp +zetaDelta only [Exit.noGoto, Exit.inBlock, Exit.then]
          go_ret
          exact ⟨rfl, below_dr HQ.out _⟩
      · rw [he] at hconv
        have hne : (((marks[2]'(by decide)).toNat : Int) != (((⟨#[a, a1, b]⟩ : ByteArray)[2]'(by show 2 < 3; omega)).toNat : Int)) = true := by
          have h1 : (marks[2]'(by decide)).toNat < 128 := by decide
          have h2 : ((⟨#[a, a1, b]⟩ : ByteArray)[2]'(by show 2 < 3; omega)) = b := rfl
          rw [h2]
          simp
          omega
        have hsz : marks.size = 4 := rfl
        have hwr : IntKind.i64.wrap 3 = 3 := by decide
        have HI : Hid (∀ (i j : Nat) (w : World), Calls Tryz.prog 118 #[.string (marks.extract i j), .int .u8 ((((⟨#[a, a1, b]⟩ : ByteArray)[2]'(by show 2 < 3; omega)).toNat : Nat) : Int)] w fun e w' => e = .returned (.int .i64 (-1)) ∧ w' = w) := fun i j w => by
          rw [show ((⟨#[a, a1, b]⟩ : ByteArray)[2]'(by show 2 < 3; omega)) = b from rfl]
          exact HIX.out b (marks.extract i j) w hb (fun x hx => (by decide : ∀ x ∈ marks.data.toList, x.toNat < 128) x (mem_extract hx))
        replace he := Lib.hid he
        clear HIX
        go_enter Tryz.func89, Tryz.ntmps89
        go_wp2_with (go_at_call 119; refine (HV.out _).mono ?_; rintro e w' ⟨rfl, rfl⟩)
        go_step3
        go_wp2_with fail
        go_loopw [9] (fun v9 wx => v9 = .int .i64 2 ∧ wx = w') (fun _ _ => 0)
        case atStart => exact ⟨rfl, rfl⟩
        case round =>
          obtain ⟨rfl, rfl⟩ := hrel
          have HBB : Hid (∀ q, Below wr.heap.size wr (wr.drewN q)) := fun q => below_dr (Below.refl _ _) q
          go_upto_region 6 with fail
          go_step3
          go_upto_region 6 with fail
          go_quiet (fail)
          have HQ := HBB.out nq
          generalize wr.drewN nq = wq at HQ ⊢
          replace HQ := Lib.hid HQ
          go_upto_region 7 with fail
          go_quiet ((go_at_call 118; exact Calls.quiet_of_same ((HI.out _ _ _).mono fun _ _ h => ⟨h.1, h.2⟩)))
          go_wp2_with fail
          dsimp +zetaDelta only [Exit.noGoto, Exit.inBlock, Exit.then]
          go_ret
          exact ⟨rfl, below_dr HQ.out _⟩
      · rw [he] at hconv
        have hne : (((marks[3]'(by decide)).toNat : Int) != (((⟨#[a, a1, a2, b]⟩ : ByteArray)[3]'(by show 3 < 4; omega)).toNat : Int)) = true := by
          have h1 : (marks[3]'(by decide)).toNat < 128 := by decide
          have h2 : ((⟨#[a, a1, a2, b]⟩ : ByteArray)[3]'(by show 3 < 4; omega)) = b := rfl
          rw [h2]
          simp
          omega
        have hsz : marks.size = 4 := rfl
        have hwr : IntKind.i64.wrap 4 = 4 := by decide
        have HI : Hid (∀ (s : ByteArray) (w : World), (∀ x ∈ s.data.toList, x.toNat < 128) → Calls Tryz.prog 118 #[.string s, .int .u8 ((((⟨#[a, a1, a2, b]⟩ : ByteArray)[3]'(by show 3 < 4; omega)).toNat : Nat) : Int)] w fun e w' => e = .returned (.int .i64 (-1)) ∧ w' = w) := fun s w hs => by
          rw [show ((⟨#[a, a1, a2, b]⟩ : ByteArray)[3]'(by show 3 < 4; omega)) = b from rfl]
          exact HIX.out b s w hb hs
        replace he := Lib.hid he
        clear HIX
        go_enter Tryz.func89, Tryz.ntmps89
        go_wp2_with (go_at_call 119; refine (HV.out _).mono ?_; rintro e w' ⟨rfl, rfl⟩)
        go_step3
        go_wp2_with fail
        go_loopw [9] (fun v9 wx => v9 = .int .i64 3 ∧ wx = w') (fun _ _ => 0)
        case atStart => exact ⟨rfl, rfl⟩
        case round =>
          obtain ⟨rfl, rfl⟩ := hrel
          have HBB : Hid (∀ q, Below wr.heap.size wr (wr.drewN q)) := fun q => below_dr (Below.refl _ _) q
          go_upto_region 6 with fail
          go_step3
          go_upto_region 6 with fail
          go_quiet (fail)
          have HQ := HBB.out nq
          generalize wr.drewN nq = wq at HQ ⊢
          replace HQ := Lib.hid HQ
          go_upto_region 7 with fail
          go_quiet ((go_at_call 118; exact Calls.quiet_of_same ((HI.out _ _ (by decide)).mono fun _ _ h => ⟨h.1, h.2⟩)))
          go_wp2_with fail
          dsimp +zetaDelta only [Exit.noGoto, Exit.inBlock, Exit.then]
          go_ret
          exact ⟨rfl, below_dr HQ.out _⟩
    · have hv' : validRune r = false := by simpa using hv
      rw [hv'] at HV
      go_enter Tryz.func89, Tryz.ntmps89
      go_wp2_with (go_at_call 119; refine (HV.out _).mono ?_; rintro e w' ⟨rfl, rfl⟩)
      go_ret
      exact ⟨rfl, Below.refl _ _⟩
end Go.Proofs.YtnplmembdfklcaaGreatDoor
namespace Go.Proofs.YtnplmembdfklcaaGreatDoor
set_option linter.unusedVariables false
set_option linter.unusedSimpArgs false
open Go.RowKit Go.Shelf

/-- is a rune one of ':._-'? -/
def hasR (r : Nat) : Bool := decide (r < 128) && decide (0 ≤ Lib.indexByte marks.data.toList r.toUInt8)
theorem containsRune_c (r : Nat) (w : World) : Calls Tryz.prog 66 #[.string ⟨#[58, 46, 95, 45]⟩, .int .i32 (r : Int)] w fun e w' => e = .returned (.bool (hasR r)) ∧ Below w.heap.size w w' := by
  by_cases h : r < 128
  · have h1 := Any.strings_ContainsRune_ascii (P := Tryz.prog) (ρ := Tryz.layHasRune_ren) { Tryz.layHasRune with } marks (r : Int) w (by omega) (by omega)
    have h2 : hasR r = decide (0 ≤ Lib.indexByte marks.data.toList (r : Int).toNat.toUInt8) := by
      unfold hasR
      simp [h]
    rw [h2]
    exact h1.mono fun e w' ⟨a, b⟩ => ⟨a, by rw [b]; exact Below.refl _ _⟩
  · have h2 : hasR r = false := by
      unfold hasR
      simp [h]
    rw [h2]
    have HI : Hid (∀ w, Calls Tryz.prog 89 #[.string ⟨#[58, 46, 95, 45]⟩, .int .i32 (r : Int)] w fun e w' => e = .returned (.int .i64 (-1)) ∧ Below w.heap.size w w') := fun w => indexRune_far (r : Int) (by omega) w
    go_enter Tryz.func66, Tryz.ntmps66
    go_wp2_with (go_at_call 89; refine (HI.out _).mono ?_; rintro e w' ⟨rfl, hb⟩)
    go_ret
    exact ⟨rfl, hb⟩

/-- May a rune not stand in a key? -/
def oddK (r : Nat) : Bool := !(decide (97 ≤ r ∧ r ≤ 122) || decide (48 ≤ r ∧ r ≤ 57) || hasR r)
theorem oddK_c (r : Nat) (w : World) : Calls Tryz.prog 65 #[.int .i32 (r : Int)] w fun e w' => e = .returned (.bool (oddK r)) ∧ Below w.heap.size w w' := by
  have HC := Lib.hid (fun w => containsRune_c r w)
  have H : (97 ≤ (r : Int) ∧ (r : Int) ≤ 122 ∧ oddK r = false) ∨ (¬ 97 ≤ (r : Int) ∧ 48 ≤ (r : Int) ∧ (r : Int) ≤ 57 ∧ oddK r = false) ∨ (¬ 97 ≤ (r : Int) ∧ 48 ≤ (r : Int) ∧ ¬ (r : Int) ≤ 57 ∧ oddK r = !hasR r) ∨ (¬ 97 ≤ (r : Int) ∧ ¬ 48 ≤ (r : Int) ∧ oddK r = !hasR r) ∨ (97 ≤ (r : Int) ∧ ¬ (r : Int) ≤ 122 ∧ 48 ≤ (r : Int) ∧ ¬ (r : Int) ≤ 57 ∧ oddK r = !hasR r) := by
    unfold oddK
    by_cases h1 : 97 ≤ r
    · by_cases h2 : r ≤ 122
      · exact .inl ⟨by omega, by omega, by simp [h1, h2]⟩
      · exact .inr (.inr (.inr (.inr ⟨by omega, by omega, by omega, by omega, by simp [h1, h2, show ¬ r ≤ 57 by omega]⟩)))
    · by_cases h2 : 48 ≤ r
      · by_cases h3 : r ≤ 57
        · exact .inr (.inl ⟨by omega, by omega, by omega, by simp [h1, h2, h3]⟩)
        · exact .inr (.inr (.inl ⟨by omega, by omega, by omega, by simp [h1, h2, h3]⟩))
      · exact .inr (.inr (.inr (.inl ⟨by omega, by omega, by simp [h1, h2]⟩)))
  generalize hasR r = y at H HC
  generalize oddK r = x at H
  rcases H with ⟨h1, h2, rfl⟩ | ⟨h1, h2, h3, rfl⟩ | ⟨h1, h2, h3, rfl⟩ | ⟨h1, h2, rfl⟩ | ⟨h1, h2, h3, h4, rfl⟩
  · go_enter Tryz.func65, Tryz.ntmps65
    go_wp2_with fail
    go_ret
    exact ⟨rfl, Below.refl _ _⟩
  · go_enter Tryz.func65, Tryz.ntmps65
    go_wp2_with fail
    go_ret
    exact ⟨rfl, Below.refl _ _⟩
  all_goals
    go_enter Tryz.func65, Tryz.ntmps65
    go_wp2_with (go_at_call 66; refine (HC.out _).mono ?_; rintro e w' ⟨rfl, hb⟩)
    go_ret
    exact ⟨rfl, hb⟩
theorem enters41 : ∀ args w, (callFunc 65 args).run Tryz.prog w = .ok (.enter 65 args) w := fun args w => by kernel_rfl

/-- May a text be a key? -/
def nameB (s : ByteArray) : Bool := match bs s with
  | [] => false
  | c :: _ => decide (s.size ≤ 60) && decide (97 ≤ c.toNat) && decide (c.toNat ≤ 122) && decide (Lib.idxFunc oddK true s < 0)
set_option maxHeartbeats 2000000 in
set_option maxRecDepth 100000 in
theorem name_c (s : ByteArray) (w : World) : Calls Tryz.prog 39 #[.string s] w fun e w' => e = .returned (.bool (nameB s)) ∧ Below w.heap.size w w' := by
  have HIDX : Hid (∀ w, Calls Tryz.prog 63 #[.string s, .func (.func 65) #[] #[]] w fun e w' => e = .returned (.int .i64 (Lib.idxFunc oddK true s)) ∧ Below w.heap.size w w') := fun w => Any.strings_IndexFunc_grows Tryz.layIdxF 65 #[] enters41 oddK s w (fun W x _ _ => oddK_c x W)
  by_cases h0 : s.size = 0
  · have hs : s = ⟨#[]⟩ := bs_inj (by
      have := bs_len s
      rw [h0] at this
      exact List.eq_nil_of_length_eq_zero this)
    subst hs
    have hn : nameB ⟨#[]⟩ = false := rfl
    rw [hn]
    clear HIDX h0 hn
    go_enter Tryz.func39, Tryz.ntmps39
    go_wp2_with fail
    go_ret
    exact ⟨rfl, Below.refl _ _⟩
  · have hi : 0 < s.size := by omega
    have hc : bs s = s[0] :: (bs s).tail := by
      have h1 := bs_len s
      cases hb : bs s with
      | nil => rw [hb] at h1; exact absurd h1.symm h0
      | cons c t =>
        have h2 : (bs s)[0]? = some c := by rw [hb]; rfl
        have h3 : (bs s)[0]? = some s[0] := by
          show s.data.toList[0]? = _
          rw [Array.getElem?_toList]
          exact Array.getElem?_eq_getElem hi
        rw [h2] at h3
        rw [Option.some.inj h3]
        rfl
    have hne : (s.toList != ([] : List UInt8)) = true := by
      rw [toList_bs, hc]
      rfl
    have hne2 : (s.toList == ([] : List UInt8)) = false := by
      rw [toList_bs, hc]
      rfl
    have HN : Hid (nameB s = (decide (s.size ≤ 60) && decide (97 ≤ (s[0]'hi).toNat) && decide ((s[0]'hi).toNat ≤ 122) && decide (Lib.idxFunc oddK true s < 0))) := by
      unfold nameB
      rw [hc]
      exact rfl
    replace hc := Lib.hid hc
    by_cases h1 : s.size ≤ 60
    · have k1 : (s.size : Int) ≤ 60 := by omega
      by_cases h2 : 97 ≤ (s[0]'hi).toNat
      · have k2 : 97 ≤ ((s[0]'hi).toNat : Int) := by omega
        by_cases h3 : (s[0]'hi).toNat ≤ 122
        · have k3 : ((s[0]'hi).toNat : Int) ≤ 122 := by omega
          have hr : nameB s = decide (Lib.idxFunc oddK true s < 0) := by rw [HN.out]; simp [h1, h2, h3]
          rw [hr]
          generalize Lib.idxFunc oddK true s = I at HIDX
          clear HN hr
          go_enter Tryz.func39, Tryz.ntmps39
          go_wp2_with (go_at_call 63; refine (HIDX.out _).mono ?_; rintro e w' ⟨rfl, hb⟩)
          go_ret
          exact ⟨rfl, hb⟩
        · have k3 : ¬ ((s[0]'hi).toNat : Int) ≤ 122 := by omega
          have hr : nameB s = false := by rw [HN.out]; simp [h3]
          rw [hr]
          clear HN hr HIDX
          go_enter Tryz.func39, Tryz.ntmps39
          go_wp2_with fail
          go_ret
          exact ⟨rfl, Below.refl _ _⟩
      · have k2 : ¬ 97 ≤ ((s[0]'hi).toNat : Int) := by omega
        have hr : nameB s = false := by rw [HN.out]; simp [h2]
        rw [hr]
        clear HN hr HIDX
        go_enter Tryz.func39, Tryz.ntmps39
        go_wp2_with fail
        go_ret
        exact ⟨rfl, Below.refl _ _⟩
    · have k1 : ¬ (s.size : Int) ≤ 60 := by omega
      have hr : nameB s = false := by rw [HN.out]; simp [h1]
      rw [hr]
      clear HN hr HIDX
      go_enter Tryz.func39, Tryz.ntmps39
      go_wp2_with fail
      go_ret
      exact ⟨rfl, Below.refl _ _⟩

/-- Is a text too long? -/
theorem long_c (s : ByteArray) (w : World) : FnGives Tryz.prog 38 #[] #[.string s] (.bool (decide (200 < s.size))) w := by
  unfold FnGives
  have H : (200 < (s.size : Int) ∧ decide (200 < s.size) = true) ∨ (¬ 200 < (s.size : Int) ∧ decide (200 < s.size) = false) := by
    by_cases h : 200 < s.size
    · exact .inl ⟨by omega, decide_eq_true h⟩
    · exact .inr ⟨by omega, decide_eq_false h⟩
  generalize decide (200 < s.size) = x at H
  rcases H with ⟨h1, rfl⟩ | ⟨h1, rfl⟩
  all_goals
    go_enter Tryz.func38, Tryz.ntmps38
    go_wp2_with fail
    go_ret
    exact ⟨rfl, 0, rfl⟩
theorem enters24 : ∀ args w, (callFunc 38 args).run Tryz.prog w = .ok (.enter 38 args) w := fun args w => by kernel_rfl

/-- Is one of texts too long? -/
theorem anyLong_c (l : List ByteArray) (a : Option Addr) (n c : Nat) (S : Nat → Prop) (w : World) (h : StrsV w S l (.slice a n c)) :
    Calls Tryz.prog 33 #[.slice a n c, .func (.func 38) #[] #[]] w fun e w' => e = .returned (.bool (l.any fun s => decide (200 < s.size))) ∧ Below w.heap.size w w' := by
  have hln := h.len
  obtain ⟨a2, c2, he, hs, hn, hin⟩ := h
  injection he with h1 h2 h3
  subst h1 h3
  by_cases h0 : l = []
  · subst h0
    obtain rfl : n = 0 := by rw [← hln]; rfl
    exact (AnyE.slices_ContainsFunc_empty Tryz.layAnyS a c _ w).mono fun e w' ⟨h1, h2⟩ => ⟨h1, by rw [h2]; exact Below.refl _ _⟩
  · obtain ⟨b, off, rfl, hb, hc⟩ := hin h0
    have hm : n ≤ 9223372036854775807 := by omega
    refine (AnyE.slices_ContainsFunc Tryz.layAnyS (fun s : ByteArray => .string s) (fun s => decide (200 < s.size)) 38 #[] enters24 b off n c l w (fun W x _ => long_c x W) (by omega) hm (fun j hj => ?_)).mono fun e w' ⟨h1, q, h2⟩ => ⟨?_, by rw [h2]; exact below_dr (Below.refl _ _) q⟩
    · rw [hc j hj, getElem!_pos l j hj]
    · rw [h1, List.take_of_length_le (by omega)]
theorem cloneS_c (l : List ByteArray) (a : Option Addr) (n c : Nat) (S : Nat → Prop) (w : World) (h : StrsV w S l (.slice a n c)) :
    Calls Tryz.prog 30 #[.slice a n c] w fun e w' => (∃ a' c', e = .returned (.slice a' n c') ∧ StrsV w' (fun b => w.heap.size ≤ b) l (.slice a' n c')) ∧ Below w.heap.size w w' := by
  have hln := h.len
  obtain ⟨a2, c2, he, hs, hn, hin⟩ := h
  injection he with h1 h2 h3
  subst h1 h3
  rw [hln] at hn
  by_cases h0 : l = []
  · subst h0
    obtain rfl : n = 0 := by rw [← hln]; rfl
    cases a with
    | none =>
      refine (Any.slices_Clone_string_nil Tryz.layCloneS 0 c w).mono fun e w' ⟨he, hw⟩ => ?_
      subst hw
      exact ⟨⟨none, 0, he, none, 0, rfl, hs, by simp, fun h => absurd rfl h⟩, Below.refl _ _⟩
    | some a =>
      refine (Any.slices_Clone_string_zero Tryz.layCloneS a c w).mono fun e w' ⟨v', he, hown, hnil, hb⟩ => ?_
      obtain ⟨a', c', rfl⟩ : ∃ a' c', v' = .slice a' 0 c' := by
        rcases hown.2 with ⟨h, _⟩ | ⟨g, cap, cur, h, _⟩
        · exact ⟨none, 0, h⟩
        · exact ⟨_, cap, h⟩
      exact ⟨⟨a', c', he, a', c', rfl, hs, by simp, fun h => absurd rfl h⟩, hb⟩
  · obtain ⟨b, off, rfl, hb, hc⟩ := hin h0
    refine (Any.slices_Clone_string Tryz.layCloneS b off n c l w (by omega) hn (fun j hj => by rw [hc j hj]; simp [List.getD, hj])).mono fun e w' ⟨v', he, hown, hnil, hb'⟩ => ?_
    rcases hown.2 with ⟨hv, _⟩ | ⟨g, cap, cur, hv, hg, hcell, hcap, _, hsz, htake⟩
    · exact absurd hv hnil
    · subst hv
      refine ⟨⟨_, cap, he, _, cap, by rw [hln], hs, by omega, fun _ => ⟨g, 0, rfl, hg, fun i hi => ?_⟩⟩, hb'⟩
      refine cell_of hcell ?_
      have h5 : (((l.take n).map Value.string))[i]? = some (.string l[i]) := by
        rw [List.take_of_length_le (by omega), List.getElem?_map, List.getElem?_eq_getElem hi]
        rfl
      have htake' : cur.toList.take (n * 1) = (l.take n).map Value.string := htake
      rw [← htake', List.getElem?_take_of_lt (by omega)] at h5
      rw [Nat.zero_add, ← Array.getElem?_toList]
      exact h5

end Go.Proofs.YtnplmembdfklcaaGreatDoor
