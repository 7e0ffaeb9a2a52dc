/-
  Is layout in a text: blanks and tabs looked for in any bytes. Helper text; the conditions are those typed.
  Is layout in a text: the walks; a line's tag. Helper text; the conditions are those typed.
  A line's tag. Helper text; the conditions are those typed.
-/
import Derived.Test.YtjcefgjgjhdbpaaGreatDoorStrA
import Derived.Test.YtjcefgjgjhdbpaaGreatDoorShelf
import Derived.Shelf.Small.Strs
import Derived.Laws.Runes
import Derived.Laws.RangeAny
import Derived.Lib.SpaceUEq
import Derived.Test.YtjcefgjgjhdbpaaGreatDoorQuietTail
import Derived.Deep.CutBlock
import Derived.Deep.CutRange
import Derived.Deep.LoopGhost
namespace Go.Proofs.YtjcefgjgjhdbpaaGreatDoor
set_option linter.unusedVariables false
set_option linter.unusedSimpArgs false
open Go.RowKit Go.Shelf

/-- A blank, a tab. -/
def lay2 : ByteArray := ⟨#[32, 9]⟩
theorem lay2_dec (pos : Nat) (h : pos < 2) : (Utf8.decode lay2 pos).1 ≠ 65533 ∧ (Utf8.decode lay2 pos).2 = 1 := by
  match pos, h with
  | 0, _ => exact ⟨by decide, by decide⟩
  | 1, _ => exact ⟨by decide, by decide⟩
theorem valid_c (r : Int) (w : World) : Calls Tryz.prog 141 #[.int .i32 r] w fun e w' => e = .returned (.bool (validRune r)) ∧ w' = w := by
  have H : (0 ≤ r ∧ r < 55296 ∧ validRune r = true) ∨ (0 ≤ r ∧ ¬ r < 55296 ∧ 57343 < r ∧ r ≤ 1114111 ∧ validRune r = true) ∨ (0 ≤ r ∧ ¬ r < 55296 ∧ 57343 < r ∧ ¬ r ≤ 1114111 ∧ validRune r = false) ∨ (0 ≤ r ∧ ¬ r < 55296 ∧ ¬ 57343 < r ∧ validRune r = false) ∨ (¬ 0 ≤ r ∧ ¬ 57343 < r ∧ validRune r = false) := by
    unfold validRune
    by_cases h : (0 ≤ r ∧ r < 55296) ∨ (57343 < r ∧ r ≤ 1114111)
    · rw [decide_eq_true h]
      rcases h with h | h
      · exact .inl ⟨h.1, h.2, rfl⟩
      · exact .inr (.inl ⟨by omega, by omega, h.1, h.2, rfl⟩)
    · rw [decide_eq_false h]
      by_cases h0 : 0 ≤ r
      · by_cases h1 : 57343 < r
        · exact .inr (.inr (.inl ⟨h0, by omega, h1, by omega, rfl⟩))
        · exact .inr (.inr (.inr (.inl ⟨h0, by omega, h1, rfl⟩)))
      · exact .inr (.inr (.inr (.inr ⟨h0, by omega, rfl⟩)))
  generalize validRune r = x at H
  rcases H with ⟨h0, h1, rfl⟩ | ⟨h0, h1, h2, h3, rfl⟩ | ⟨h0, h1, h2, h3, rfl⟩ | ⟨h0, h1, h2, rfl⟩ | ⟨h0, h1, rfl⟩
  all_goals
    go_enter Tryz.func141, Tryz.ntmps141
    go_wp2_with fail
    go_ret
    exact ⟨rfl, rfl⟩

theorem inBlock_ret2 (n : Nat) (Q : Exit → Act → World → Prop) (a : Act) (w : World) : Exit.inBlock n Q .ret a w = Q .ret a w := rfl
set_option maxHeartbeats 2000000 in
set_option maxRecDepth 100000 in
theorem far_bad (w : World) : Calls Tryz.prog 123 #[.string lay2, .int .i32 65533] w fun e w' => e = .returned (.int .i64 (-1)) ∧ Below w.heap.size w w' := by
  have h0 : (0 : Int) ≤ 65533 := by omega
  have h1 : ¬ (65533 : Int) < 128 := by omega
  have hbe : ((65533 : Int) == 65533) = true := rfl
  go_enter Tryz.func123, Tryz.ntmps123
  go_wp2_with fail
  go_loopg [5, 6] 2 (fun gf v5 v6 wx => ∃ pos : Nat, wx.heap[w.heap.size]? = some (.stringIter lay2 pos) ∧ Below w.heap.size w wx ∧ 2 ≤ pos + gf)
  case atStart => exact ⟨0, World.iter_heap w lay2 0, (Below.refl _ w).alloc (Nat.le_refl _) _, by omega⟩
  case round =>
    obtain ⟨pos, hit, hbw, hfu⟩ := hrel
    by_cases hps : pos < lay2.size
    · have hps2 : pos < 2 := hps
      obtain ⟨g', rfl⟩ : ∃ g', gk = g' + 1 := ⟨gk - 1, by omega⟩
      have hnx : ∀ ty, (Instr.next (.pointer (some ⟨w.heap.size, 0, none⟩)) true ty).run Tryz.prog wr = _ := fun ty => Lib.run_next_any_at wr w.heap.size lay2 pos ty hit hps
      obtain ⟨hR, hK⟩ := lay2_dec pos hps2
      rw [hK] at hnx
      generalize (Utf8.decode lay2 pos).1 = R at hnx hR
      have hRb : ((R : Int) == 65533) = false := by
        rw [beq_eq_false_iff_ne]
        intro e
        exact hR (by omega)
      have hit2 := Lib.iterAt_heap wr w.heap.size lay2 pos (pos + 1) hit
      have hbw2 := Lib.below_iterAt hbw (k := w.heap.size) (Nat.le_refl _) lay2 (pos + 1)
      obtain ⟨W, hWd⟩ : ∃ W, wr.iterAt w.heap.size lay2 (pos + 1) = W := ⟨_, rfl⟩
      rw [hWd] at hnx hit2 hbw2
      replace hR := Lib.hid hR
      go_wp2_with fail
      go_roundg g'
      case measure => omega
      case rel => exact ⟨pos + 1, hit2, hbw2, by omega⟩
    · have hnx : ∀ ty, (Instr.next (.pointer (some ⟨w.heap.size, 0, none⟩)) true ty).run Tryz.prog wr = _ := fun ty => Lib.run_next_end_at wr w.heap.size lay2 pos ty hit hps
      go_wp2_with fail
      go_ret
      exact ⟨rfl, hbw⟩
set_option maxHeartbeats 2000000 in
set_option maxRecDepth 100000 in
theorem far_inv (r : Int) (h : 128 ≤ r) (hbad : ¬ r = 65533) (hv : validRune r = false) (w : World) : Calls Tryz.prog 123 #[.string lay2, .int .i32 r] w fun e w' => e = .returned (.int .i64 (-1)) ∧ Below w.heap.size w w' := by
  have h0 : 0 ≤ r := by omega
  have h1 : ¬ r < 128 := by omega
  have hbe : (r == 65533) = false := by simpa using hbad
  have HV := Lib.hid (fun w => valid_c r w)
  rw [hv] at HV
  go_enter Tryz.func123, Tryz.ntmps123
  go_wp2_with (go_at_call 141; refine (HV.out _).mono ?_; rintro e w' ⟨rfl, rfl⟩)
  go_ret
  exact ⟨rfl, Below.refl _ _⟩
theorem far_byte (b : UInt8) (s : ByteArray) (w : World) (hb : 128 ≤ b.toNat) (hs : ∀ x ∈ s.data.toList, x.toNat < 128) : Calls Tryz.prog 99 #[.string s, .int .u8 (b.toNat : Int)] w fun e w' => e = .returned (.int .i64 (-1)) ∧ w' = w := by
  have h1 := Any.strings_IndexByte (P := Tryz.prog) (ρ := Tryz.layIndexByte_ren) Tryz.layIndexByte s (b.toNat : Int) w
  have h2 : Lib.indexByte s.data.toList ((b.toNat : Int).toNat.toUInt8) = -1 := by
    have hbb : ((b.toNat : Int).toNat.toUInt8) = b := by simp
    rw [hbb]
    have hge := Lib.indexByte_ge s.data.toList b
    by_cases h : Lib.indexByte s.data.toList b = -1
    · exact h
    · obtain ⟨o, ho⟩ : ∃ o : Nat, Lib.indexByte s.data.toList b = o := ⟨(Lib.indexByte s.data.toList b).toNat, by omega⟩
      have := (Lib.indexByte_some ho).1
      have hm := hs b (List.mem_of_getElem? this)
      omega
  rw [h2] at h1
  exact h1
set_option maxHeartbeats 2000000 in
set_option maxRecDepth 100000 in
theorem far_two (r : Int) (h : 128 ≤ r) (hbad : ¬ r = 65533) (hv : validRune r = true) (a b : UInt8) (he : Utf8.encode r = ⟨#[a, b]⟩) (hb : 128 ≤ b.toNat) (w : World) : Calls Tryz.prog 123 #[.string lay2, .int .i32 r] w fun e w' => e = .returned (.int .i64 (-1)) ∧ Below w.heap.size w w' := by
  have h0 : 0 ≤ r := by omega
  have h1 : ¬ r < 128 := by omega
  have hbe : (r == 65533) = false := by simpa using hbad
  have HV := Lib.hid (fun w => valid_c r w)
  rw [hv] at HV
  have hconv : ∀ w, (convert 21 9 (.int .i32 r)).run Tryz.prog w = .ok (.string (Utf8.encode r)) w := fun w => run_convert_int_string w 21 9 .i32 r (by rw [Tryz.underlying21]; rfl) Tryz.underlying9
  rw [he] at hconv
  have hsz : lay2.size = 2 := rfl
  have hne : (((lay2[1]'(by decide)).toNat : Int) != (((⟨#[a, b]⟩ : ByteArray)[1]'(by show 1 < 2; omega)).toNat : Int)) = true := by
    have h1 : (lay2[1]'(by decide)).toNat < 128 := by decide
    have h2 : ((⟨#[a, b]⟩ : ByteArray)[1]'(by show 1 < 2; omega)) = b := rfl
    rw [h2]
    simp
    omega
  have hwr : IntKind.i64.wrap 2 = 2 := by decide
  have HI : Hid (∀ (s : ByteArray) (w : World), (∀ x ∈ s.data.toList, x.toNat < 128) → Calls Tryz.prog 99 #[.string s, .int .u8 ((((⟨#[a, b]⟩ : ByteArray)[1]'(by show 1 < 2; omega)).toNat : Nat) : Int)] w fun e w' => e = .returned (.int .i64 (-1)) ∧ w' = w) := fun s w hs => by
    rw [show ((⟨#[a, b]⟩ : ByteArray)[1]'(by show 1 < 2; omega)) = b from rfl]
    exact far_byte b s w hb hs
  replace he := Lib.hid he
  go_enter Tryz.func123, Tryz.ntmps123
  go_wp2_with (go_at_call 141; refine (HV.out _).mono ?_; rintro e w' ⟨rfl, rfl⟩)
  go_step3
  go_wp2_with fail
  go_loopw [9] (fun v9 wx => v9 = .int .i64 1 ∧ wx = w') (fun _ _ => 0)
  case atStart => exact ⟨rfl, rfl⟩
  case round =>
    obtain ⟨rfl, rfl⟩ := hrel
    have HBB : Hid (∀ q, Below wr.heap.size wr (wr.drewN q)) := fun q => below_dr (Below.refl _ _) q
    go_upto_region 6 with fail
    go_step3
    go_upto_region 6 with fail
    go_quiet (fail)
    have HQ := HBB.out nq
    generalize wr.drewN nq = wq at HQ ⊢
    replace HQ := Lib.hid HQ
    go_upto_region 7 with fail
    go_quiet ((go_at_call 99; refine Calls.quiet_of_same ((HI.out _ _ ?_).mono fun _ _ h => ⟨h.1, h.2⟩); intro x hx; first | exact (by decide : ∀ x ∈ lay2.data.toList, x.toNat < 128) x (mem_extract hx) | (exfalso; simp at hx)))
    go_wp2_with fail
    dsimp +zetaDelta only [Exit.noGoto, Exit.inBlock, Exit.then]
    go_ret
    exact ⟨rfl, below_dr HQ.out _⟩
set_option maxHeartbeats 2000000 in
set_option maxRecDepth 100000 in
theorem far_three (r : Int) (h : 128 ≤ r) (hbad : ¬ r = 65533) (hv : validRune r = true) (a a1 b : UInt8) (he : Utf8.encode r = ⟨#[a, a1, b]⟩) (w : World) : Calls Tryz.prog 123 #[.string lay2, .int .i32 r] w fun e w' => e = .returned (.int .i64 (-1)) ∧ Below w.heap.size w w' := by
  have h0 : 0 ≤ r := by omega
  have h1 : ¬ r < 128 := by omega
  have hbe : (r == 65533) = false := by simpa using hbad
  have HV := Lib.hid (fun w => valid_c r w)
  rw [hv] at HV
  have hconv : ∀ w, (convert 21 9 (.int .i32 r)).run Tryz.prog w = .ok (.string (Utf8.encode r)) w := fun w => run_convert_int_string w 21 9 .i32 r (by rw [Tryz.underlying21]; rfl) Tryz.underlying9
  rw [he] at hconv
  have hsz : lay2.size = 2 := rfl
  have hwr : IntKind.i64.wrap 3 = 3 := by decide
  replace he := Lib.hid he
  go_enter Tryz.func123, Tryz.ntmps123
  go_wp2_with (go_at_call 141; refine (HV.out _).mono ?_; rintro e w' ⟨rfl, rfl⟩)
  go_step3
  go_wp2_with fail
  go_loopw [9] (fun v9 wx => v9 = .int .i64 2 ∧ wx = w') (fun _ _ => 0)
  case atStart => exact ⟨rfl, rfl⟩
  case round =>
    obtain ⟨rfl, rfl⟩ := hrel
    go_wp2_with fail
    dsimp +zetaDelta only [Exit.noGoto, Exit.inBlock, Exit.then]
    go_ret
    exact ⟨rfl, Below.refl _ _⟩
set_option maxHeartbeats 2000000 in
set_option maxRecDepth 100000 in
theorem far_four (r : Int) (h : 128 ≤ r) (hbad : ¬ r = 65533) (hv : validRune r = true) (a a1 a2 b : UInt8) (he : Utf8.encode r = ⟨#[a, a1, a2, b]⟩) (w : World) : Calls Tryz.prog 123 #[.string lay2, .int .i32 r] w fun e w' => e = .returned (.int .i64 (-1)) ∧ Below w.heap.size w w' := by
  have h0 : 0 ≤ r := by omega
  have h1 : ¬ r < 128 := by omega
  have hbe : (r == 65533) = false := by simpa using hbad
  have HV := Lib.hid (fun w => valid_c r w)
  rw [hv] at HV
  have hconv : ∀ w, (convert 21 9 (.int .i32 r)).run Tryz.prog w = .ok (.string (Utf8.encode r)) w := fun w => run_convert_int_string w 21 9 .i32 r (by rw [Tryz.underlying21]; rfl) Tryz.underlying9
  rw [he] at hconv
  have hsz : lay2.size = 2 := rfl
  have hwr : IntKind.i64.wrap 4 = 4 := by decide
  replace he := Lib.hid he
  go_enter Tryz.func123, Tryz.ntmps123
  go_wp2_with (go_at_call 141; refine (HV.out _).mono ?_; rintro e w' ⟨rfl, rfl⟩)
  go_step3
  go_wp2_with fail
  go_loopw [9] (fun v9 wx => v9 = .int .i64 3 ∧ wx = w') (fun _ _ => 0)
  case atStart => exact ⟨rfl, rfl⟩
  case round =>
    obtain ⟨rfl, rfl⟩ := hrel
    go_wp2_with fail
    dsimp +zetaDelta only [Exit.noGoto, Exit.inBlock, Exit.then]
    go_ret
    exact ⟨rfl, Below.refl _ _⟩
/-- A rune that is not ASCII is no layout. -/
theorem indexRune_far (r : Int) (h : 128 ≤ r) (w : World) : Calls Tryz.prog 123 #[.string lay2, .int .i32 r] w fun e w' => e = .returned (.int .i64 (-1)) ∧ Below w.heap.size w w' := by
  by_cases hbad : r = 65533
  · subst hbad
    exact far_bad w
  · by_cases hv : validRune r = true
    · obtain ⟨e1, e2, e3⟩ := encode_facts r (by rw [validRune_eq]; exact hv) h
      have hE : (∃ a b, Utf8.encode r = ⟨#[a, b]⟩ ∧ 128 ≤ b.toNat) ∨ (∃ a a1 b, Utf8.encode r = ⟨#[a, a1, b]⟩ ∧ 128 ≤ b.toNat) ∨ (∃ a a1 a2 b, Utf8.encode r = ⟨#[a, a1, a2, b]⟩ ∧ 128 ≤ b.toNat) := by
        generalize Utf8.encode r = E at e1 e2 e3
        obtain ⟨⟨l⟩⟩ := E
        match l, e1, e2, e3 with
        | [], e1, _, _ => exact absurd e1 (by show ¬ 2 ≤ 0; omega)
        | [_], e1, _, _ => exact absurd e1 (by show ¬ 2 ≤ 1; omega)
        | [a, b], _, _, e3 => exact .inl ⟨a, b, rfl, e3 (by show 1 < 2; omega)⟩
        | [a, a1, b], _, _, e3 => exact .inr (.inl ⟨a, a1, b, rfl, e3 (by show 2 < 3; omega)⟩)
        | [a, a1, a2, b], _, _, e3 => exact .inr (.inr ⟨a, a1, a2, b, rfl, e3 (by show 3 < 4; omega)⟩)
        | _ :: _ :: _ :: _ :: _ :: l, _, e2, _ => exact absurd e2 (by show ¬ (l.length + 5) ≤ 4; omega)
      rcases hE with ⟨a, b, he, hb⟩ | ⟨a, a1, b, he, hb⟩ | ⟨a, a1, a2, b, he, hb⟩
      · exact far_two r h hbad hv a b he hb w
      · exact far_three r h hbad hv a a1 b he w
      · exact far_four r h hbad hv a a1 a2 b he w
    · exact far_inv r h hbad (by simpa using hv) w
end Go.Proofs.YtjcefgjgjhdbpaaGreatDoor
namespace Go.Proofs.YtjcefgjgjhdbpaaGreatDoor
set_option linter.unusedVariables false
set_option linter.unusedSimpArgs false
open Go.RowKit Go.Shelf

theorem decN_high (n b0 b1 b2 b3 : Nat) (h : 128 ≤ b0) : (2 ≤ (Lib.decodeN n b0 b1 b2 b3).2 → 128 ≤ b1) ∧ (3 ≤ (Lib.decodeN n b0 b1 b2 b3).2 → 128 ≤ b2) ∧ (4 ≤ (Lib.decodeN n b0 b1 b2 b3).2 → 128 ≤ b3) ∧ (Lib.decodeN n b0 b1 b2 b3).2 ≤ 4 := by
  unfold Lib.decodeN
  repeat' split
  all_goals
    refine ⟨fun hh => ?_, fun hh => ?_, fun hh => ?_, ?_⟩
  all_goals first
    | omega
    | (simp only at hh; omega)
    | (simp only; omega)
/-- Lists of bytes: is layout among them? -/
def hasL (l : List UInt8) : Bool := l.any layB
theorem layB_iff (c : UInt8) : ([32, 9] : List UInt8).contains c = layB c := by
  unfold layB
  simp only [List.contains_cons, List.contains_nil, Bool.or_false]
theorem noAny_hasL {l : List UInt8} (h : Lib.NoAny l [32, 9] l.length) : hasL l = false := by
  unfold hasL
  rw [List.any_eq_false]
  intro c hc
  obtain ⟨j, hj, he⟩ := List.getElem_of_mem hc
  have := h j c hj (by rw [List.getElem?_eq_getElem hj, he])
  rw [layB_iff] at this
  simp [this]
theorem hasL_at {l : List UInt8} {i : Nat} {c : UInt8} (h : l[i]? = some c) (hc : layB c = true) : hasL l = true := by
  unfold hasL
  rw [List.any_eq_true]
  exact ⟨c, List.mem_of_getElem? h, hc⟩
theorem noAny_more {l ch : List UInt8} {i k : Nat} (h : Lib.NoAny l ch i) (hk : ∀ j b, i ≤ j → j < i + k → l[j]? = some b → ch.contains b = false) : Lib.NoAny l ch (i + k) := fun j b hj hb => by
  by_cases h1 : j < i
  · exact h j b h1 hb
  · exact hk j b (by omega) hj hb
theorem high_noL {c : UInt8} (h : 128 ≤ c.toNat) : ([32, 9] : List UInt8).contains c = false := by
  rw [layB_iff]
  unfold layB
  have h1 : c ≠ 32 := fun e => by subst e; revert h; decide
  have h2 : c ≠ 9 := fun e => by subst e; revert h; decide
  simp [h1, h2]
/-- What a step over a text finds. -/
theorem dec_step (s : ByteArray) (pos : Nat) (h : pos < s.size) : 1 ≤ (Utf8.decode s pos).2 ∧
    (((Utf8.decode s pos).1 < 128 ∧ (Utf8.decode s pos).2 = 1 ∧ ∃ c, (bs s)[pos]? = some c ∧ c.toNat = (Utf8.decode s pos).1) ∨
    (128 ≤ (Utf8.decode s pos).1 ∧ ∀ j b, pos ≤ j → j < pos + (Utf8.decode s pos).2 → (bs s)[j]? = some b → ([32, 9] : List UInt8).contains b = false)) := by
  have hg : (bs s)[pos]? = some (s[pos]'h) := Lib.data_getElem? s pos h
  by_cases ha : (s[pos]'h).toNat < 128
  · have hd := decode_ascii s pos h ha
    rw [hd]
    exact ⟨Nat.le_refl _, .inl ⟨ha, rfl, _, hg, rfl⟩⟩
  · have hh := decode_high s pos h (by omega)
    refine ⟨hh.2, .inr ⟨hh.1, ?_⟩⟩
    intro j b hj1 hj2 hb
    have hD := Lib.decode_N s pos
    have h0 : 128 ≤ (s.data.toList.getD pos 0).toNat := by
      rw [List.getD, show s.data.toList[pos]? = _ from hg]
      show 128 ≤ (s[pos]'h).toNat
      omega
    obtain ⟨e1, e2, e3, e4⟩ := decN_high (s.data.toList.length - pos) _ (s.data.toList.getD (pos + 1) 0).toNat (s.data.toList.getD (pos + 2) 0).toNat (s.data.toList.getD (pos + 3) 0).toNat h0
    rw [← hD] at e1 e2 e3 e4
    have hgd : b = s.data.toList.getD j 0 := by
      rw [List.getD, show s.data.toList[j]? = some b from hb]
      rfl
    refine high_noL ?_
    obtain ⟨d, rfl⟩ : ∃ d, j = pos + d := ⟨j - pos, by omega⟩
    rw [hgd]
    match d, hj2 with
    | 0, _ => exact h0
    | 1, hj2 => exact e1 (by omega)
    | 2, hj2 => exact e2 (by omega)
    | 3, hj2 => exact e3 (by omega)
    | d + 4, hj2 => omega
/-- A rune looked for in layout. -/
theorem indexRune_c (r : Nat) : ∃ J : Int, (∀ w, Calls Tryz.prog 123 #[.string lay2, .int .i32 (r : Int)] w fun e w' => e = .returned (.int .i64 J) ∧ Below w.heap.size w w') ∧ (0 ≤ J ↔ r < 128 ∧ ([32, 9] : List UInt8).contains r.toUInt8 = true) := by
  by_cases h : r < 128
  · refine ⟨Lib.indexByte [32, 9] r.toUInt8, fun w => ?_, ?_⟩
    · have h1 := Any.strings_IndexRune_ascii (P := Tryz.prog) (ρ := Tryz.layHasAny_ren) { Tryz.layHasAny with } lay2 (r : Int) w (by omega) (by omega)
      exact h1.mono fun e w' ⟨a, b⟩ => ⟨a, by rw [b]; exact Below.refl _ _⟩
    · have hcon := Lib.contains_iff_indexByte [32, 9] r.toUInt8
      rw [hcon, decide_eq_true_iff]
      exact ⟨fun a => ⟨h, a⟩, fun a => a.2⟩
  · refine ⟨-1, fun w => indexRune_far (r : Int) (by omega) w, ?_⟩
    constructor
    · intro a; omega
    · intro a; exact absurd a.1 h
set_option maxHeartbeats 4000000 in
set_option maxRecDepth 100000 in
theorem indexAny_short (s : ByteArray) (h8 : s.size ≤ 8) (w : World) : Calls Tryz.prog 86 #[.string s, .string lay2] w fun e w' => (∃ J : Int, e = .returned (.int .i64 J) ∧ (0 ≤ J ↔ hasL (bs s) = true)) ∧ Below w.heap.size w w' := by
  have hemp : lay2.toList.isEmpty = false := by rw [Lib.toList_data]; rfl
  have hemp2 : (lay2.toList == ([] : List UInt8)) = false := by rw [Lib.toList_data]; rfl
  have hsz : lay2.size = 2 := rfl
  have HS : Hid (∀ w, Calls Tryz.prog 125 #[.int .i64 (s.size : Int)] w fun e w' => e = .returned (.bool false) ∧ w' = w) := fun w => by
    have h1 := Any.strings_shouldUseASCIISet (P := Tryz.prog) (ρ := Tryz.layHasAny_ren) { Tryz.layHasAny with } (s.size : Int) w
    rw [show decide ((8 : Int) < (s.size : Int)) = false from decide_eq_false (by omega)] at h1
    exact h1
  have HX := Lib.hid indexRune_c
  go_enter Tryz.func86, Tryz.ntmps86
  go_wp2_with (go_at_call 125; refine (HS.out _).mono ?_; rintro e w' ⟨rfl, rfl⟩)
  go_loopg [9, 10] s.size (fun gf v9 v10 wx => ∃ pos : Nat, wx.heap[w'.heap.size]? = some (.stringIter s pos) ∧ Below w'.heap.size w' wx ∧ s.size ≤ pos + gf ∧ Lib.NoAny (bs s) [32, 9] pos)
  case atStart => exact ⟨0, World.iter_heap w' s 0, (Below.refl _ w').alloc (Nat.le_refl _) _, by omega, Lib.NoAny.zero _ _⟩
  case round =>
    obtain ⟨pos, hit, hbw, hfu, hno⟩ := hrel
    replace hno := Lib.hid hno
    by_cases hps : pos < s.size
    · obtain ⟨g', rfl⟩ : ∃ g', gk = g' + 1 := ⟨gk - 1, by omega⟩
      have hnx : ∀ ty, (Instr.next (.pointer (some ⟨w'.heap.size, 0, none⟩)) true ty).run Tryz.prog wr = _ := fun ty => Lib.run_next_any_at wr w'.heap.size s pos ty hit hps
      obtain ⟨hK, hR⟩ := dec_step s pos hps
      generalize (Utf8.decode s pos).2 = K at hnx hK hR
      generalize (Utf8.decode s pos).1 = R at hnx hR
      have hit2 := Lib.iterAt_heap wr w'.heap.size s pos (pos + K) hit
      have hbw2 := Lib.below_iterAt hbw (k := w'.heap.size) (Nat.le_refl _) s (pos + K)
      obtain ⟨W, hWd⟩ : ∃ W, wr.iterAt w'.heap.size s (pos + K) = W := ⟨_, rfl⟩
      rw [hWd] at hnx hit2 hbw2
      obtain ⟨J, HJ, hJ⟩ := HX.out R
      replace HJ := Lib.hid HJ
      replace hbw2 := Lib.hid hbw2
      replace hit2 := Lib.hid hit2
      replace hR := Lib.hid hR
      by_cases hJ0 : 0 ≤ J
      · have hfin : Hid (hasL (bs s) = true) := by
          have hj := hJ.1 hJ0
          rcases hR.out with ⟨a1, a2, c, hc, hcr⟩ | ⟨a1, a2⟩
          · refine hasL_at hc ?_
            rw [← layB_iff]
            have : R.toUInt8 = c := by rw [← hcr]; simp
            rw [← this]
            exact hj.2
          · omega
        clear hJ
        go_wp2_with (go_at_call 123; refine (HJ.out _).mono ?_; rintro e w5 ⟨rfl, hb⟩)
        go_ret
        exact ⟨⟨_, rfl, fun _ => hfin.out, fun _ => by omega⟩, hbw2.out.trans (hb.mono hbw2.out.size)⟩
      · have hno2 : Hid (Lib.NoAny (bs s) [32, 9] (pos + K)) := by
          refine noAny_more hno.out ?_
          rcases hR.out with ⟨a1, a2, c, hc, hcr⟩ | ⟨a1, a2⟩
          · intro j b hj1 hj2 hb
            obtain rfl : j = pos := by omega
            rw [hc] at hb
            obtain rfl := Option.some.inj hb
            have : R.toUInt8 = c := by rw [← hcr]; simp
            rw [← this]
            cases hcc : ([32, 9] : List UInt8).contains R.toUInt8 with
            | false => rfl
            | true => exact absurd (hJ.2 ⟨a1, hcc⟩) hJ0
          · exact a2
        clear hJ
        go_wp2_with (go_at_call 123; refine (HJ.out _).mono ?_; rintro e w5 ⟨rfl, hb⟩)
        go_roundg g'
        case measure => omega
        case rel => exact ⟨pos + K, by rw [hb.block _ (Nat.lt_of_lt_of_le (by have := hit2.out; exact (Array.getElem?_eq_some_iff.1 this).1) (Nat.le_refl _))]; exact hit2.out, hbw2.out.trans (hb.mono hbw2.out.size), by omega, hno2.out⟩
    · have hnx : ∀ ty, (Instr.next (.pointer (some ⟨w'.heap.size, 0, none⟩)) true ty).run Tryz.prog wr = _ := fun ty => Lib.run_next_end_at wr w'.heap.size s pos ty hit hps
      have hfin : Hid (hasL (bs s) = false) := noAny_hasL (fun j b hj hb => hno.out j b (by rw [bs_length] at hj; omega) hb)
      go_wp2_with fail
      go_ret
      exact ⟨⟨_, rfl, fun a => by omega, fun a => by rw [hfin.out] at a; exact absurd a (by decide)⟩, hbw⟩
theorem indexAny_ge0 : ∀ l : List UInt8, 0 ≤ Lib.indexAny l [32, 9] ↔ hasL l = true
  | [] => by
    unfold Lib.indexAny
    exact ⟨fun a => by omega, fun a => absurd a (by decide)⟩
  | c :: l => by
    have ih := indexAny_ge0 l
    have hge := Lib.indexAny_ge [32, 9] l
    have e : hasL (c :: l) = (layB c || hasL l) := rfl
    have e2 : Lib.indexAny (c :: l) [32, 9] = if ([32, 9] : List UInt8).contains c = true then 0 else if (Lib.indexAny l [32, 9] == -1) = true then -1 else Lib.indexAny l [32, 9] + 1 := rfl
    rw [e, Bool.or_eq_true, ← ih, ← layB_iff, e2]
    by_cases hc : ([32, 9] : List UInt8).contains c = true
    · rw [if_pos hc]
      exact ⟨fun _ => .inl hc, fun _ => Int.le_refl _⟩
    · rw [if_neg hc]
      by_cases h1 : Lib.indexAny l [32, 9] = -1
      · rw [if_pos (by simpa using h1)]
        constructor
        · intro a; omega
        · rintro (a | a)
          · exact absurd a hc
          · omega
      · rw [if_neg (by simpa using h1)]
        constructor
        · intro a; right; omega
        · rintro (a | a)
          · exact absurd a hc
          · omega
theorem indexAny_c (s : ByteArray) (hs : s.size < 4294967281) (w : World) : Calls Tryz.prog 86 #[.string s, .string lay2] w fun e w' => (∃ J : Int, e = .returned (.int .i64 J) ∧ (0 ≤ J ↔ hasL (bs s) = true)) ∧ Below w.heap.size w w' := by
  by_cases h8 : s.size ≤ 8
  · exact indexAny_short s h8 w
  · have h116 : (Tryz.prog.info? (Tryz.layHasAny_ren.t 116)).map (fun i => (i.zero, i.size)) = some (some (.agg (Array.replicate 256 (.bool false))), 256) := by kernel_rfl
    have h1 := Any.strings_IndexAny_long (P := Tryz.prog) (ρ := Tryz.layHasAny_ren) { Tryz.layHasAny with } (zero_of_info h116).1 (zero_of_info h116).2 s lay2 w (by decide) (by omega) hs (by decide) (fun j b hb => by
      match j with
      | 0 => cases hb; decide
      | 1 => cases hb; decide
      | j + 2 => cases hb)
    refine h1.mono fun e w' ⟨a, b⟩ => ⟨⟨_, a, indexAny_ge0 _⟩, ?_⟩
    rw [b]
    exact ((Below.refl _ w).alloc (Nat.le_refl _) _).alloc (by simp) _
set_option maxHeartbeats 1000000 in
/-- strings.ContainsAny, layout. -/
theorem hasL_c (s : ByteArray) (hs : s.size < 4294967281) (w : World) : Calls Tryz.prog 51 #[.string s, .string ⟨#[32, 9]⟩] w fun e w' => e = .returned (.bool (hasL (bs s))) ∧ Below w.heap.size w w' := by
  have H := Lib.hid (indexAny_c s hs)
  generalize hasL (bs s) = x at H ⊢
  show Calls Tryz.prog 51 #[.string s, .string lay2] w _
  go_enter Tryz.func51, Tryz.ntmps51
  go_wp2_with (go_at_call 86; refine (H.out _).mono ?_; rintro e w' ⟨⟨J, rfl, hJ⟩, hb⟩; have HB := Lib.hid hb; clear hb; replace hJ := Lib.hid hJ)
  go_ret
  refine ⟨?_, HB.out⟩
  have := hJ.out
  cases x with
  | true => simp [this]
  | false => simp at this; simp; omega
end Go.Proofs.YtjcefgjgjhdbpaaGreatDoor
namespace Go.Proofs.YtjcefgjgjhdbpaaGreatDoor
set_option linter.unusedVariables false
set_option linter.unusedSimpArgs false
open Go.RowKit Go.Shelf

theorem tagScan_is : ∀ l : List UInt8, tagScan l = if decide (58 ∈ l) = true ∧ hasL (cutA 58 l) = false then some (cutA 58 l, cutZ 58 l) else none
  | [] => rfl
  | c :: l => by
    have ih := tagScan_is l
    unfold tagScan
    by_cases hc : c = 58
    · subst hc
      have h1 : cutA 58 ((58 : UInt8) :: l) = [] := rfl
      have h2 : cutZ 58 ((58 : UInt8) :: l) = l := rfl
      rw [if_neg (by decide), if_pos rfl, h1, h2, if_pos ⟨by simp, rfl⟩]
    · have h1 : cutA 58 (c :: l) = c :: cutA 58 l := by
        unfold cutA
        rw [List.takeWhile_cons, if_pos (by simpa using hc)]
      have h2 : cutZ 58 (c :: l) = cutZ 58 l := by
        unfold cutZ
        rw [List.dropWhile_cons, if_pos (by simpa using hc)]
      have h3 : decide (58 ∈ c :: l) = decide (58 ∈ l) := by
        have : (58 : UInt8) ≠ c := fun e => hc e.symm
        simp [this]
      have h4 : hasL (c :: cutA 58 l) = (layB c || hasL (cutA 58 l)) := rfl
      rw [h1, h2, h3, h4, if_neg hc, ih]
      cases layB c with
      | true => simp
      | false =>
        rw [if_neg (by decide), Bool.false_or]
        by_cases h5 : decide (58 ∈ l) = true ∧ hasL (cutA 58 l) = false
        · rw [if_pos h5, if_pos h5]
          rfl
        · rw [if_neg h5, if_neg h5]
          rfl
theorem tagOf_is (s : List UInt8) : tagOf s = if decide (58 ∈ s.drop 1) = true ∧ cutA 58 (s.drop 1) ≠ [] ∧ hasL (cutA 58 (s.drop 1)) = false then some (cutA 58 (s.drop 1), cutZ 58 (s.drop 1)) else none := by
  unfold tagOf
  rw [tagScan_is]
  by_cases h1 : decide (58 ∈ s.drop 1) = true ∧ hasL (cutA 58 (s.drop 1)) = false
  · rw [if_pos h1]
    by_cases h2 : cutA 58 (s.drop 1) = []
    · rw [if_neg (fun h => h.2.1 h2)]
      show (if cutA 58 (s.drop 1) = [] then none else _) = _
      rw [if_pos h2]
    · rw [if_pos ⟨h1.1, h2, h1.2⟩]
      show (if cutA 58 (s.drop 1) = [] then none else _) = _
      rw [if_neg h2]
  · rw [if_neg h1, if_neg (fun h => h1 ⟨h.1, h.2.2⟩)]
set_option maxHeartbeats 2000000 in
set_option maxRecDepth 100000 in
/-- suse.tag. -/
theorem tag_c (s : ByteArray) (h1 : 1 ≤ s.size) (hs : s.size < 4294967281) (w : World) : Calls Tryz.prog 16 #[.string s] w fun e w' => (∃ a b : ByteArray, e = .returned (.tuple #[.string a, .string b, .bool (tagOf (bs s)).isSome]) ∧ ∀ x, tagOf (bs s) = some x → a = mkB x.1 ∧ b = mkB x.2) ∧ Below w.heap.size w w' := by
  have HB0 : bs (s.extract 1 s.size) = (bs s).drop 1 := by rw [bs_tail]
  have HC := cut1_c (s.extract 1 s.size) 58 (by unfold maxLen; rw [ByteArray.size_extract]; omega)
  have HZ := tagOf_is (bs s)
  rw [HB0] at HC
  generalize (bs s).drop 1 = l at HC HZ HB0
  have HL : Hid (∀ w, Calls Tryz.prog 51 #[.string (mkB (cutA 58 l)), .string ⟨#[32, 9]⟩] w fun e w' => e = .returned (.bool (hasL (cutA 58 l))) ∧ Below w.heap.size w w') := fun w => by
    have h := hasL_c (mkB (cutA 58 l)) (by
      have h1 : (cutA 58 l).length ≤ l.length := (List.takeWhile_prefix _).length_le
      have h2 : l.length ≤ s.size := by
        rw [← HB0, bs_length, ByteArray.size_extract]
        omega
      have h3 : (mkB (cutA 58 l)).size = (cutA 58 l).length := rfl
      omega) w
    exact h
  have hA : bs (mkB (cutA 58 l)) = cutA 58 l := rfl
  generalize cutZ 58 l = b at HC HZ
  generalize cutA 58 l = a at HC HZ HL hA
  generalize decide (58 ∈ l) = f at HC HZ
  generalize hasL a = g at HL HZ
  replace HC := Lib.hid HC
  have g1 : (1 : Int) ≤ (s.size : Int) := by omega
  clear HB0
  by_cases ha : a = []
  · subst ha
    have HN : Hid (tagOf (bs s) = none) := Lib.hid (by rw [HZ, if_neg (fun h => h.2.1 rfl)])
    have hx : (tagOf (bs s)).isSome = false := by rw [HN.out]; rfl
    have hm : mkB [] = ⟨#[]⟩ := rfl
    rw [hx]
    rw [hm] at HC
    clear HZ HL hA hx hm
    cases f
    all_goals
      go_enter Tryz.func16, Tryz.ntmps16
      go_wp2_with (go_at_call 14; refine (HC.out _).mono ?_; rintro e w' ⟨rfl, hb⟩; have HB := Lib.hid hb; clear hb)
      go_ret3
      exact ⟨⟨_, _, rfl, fun x hx => by rw [HN.out] at hx; cases hx⟩, HB.out⟩
  · have hne : ((mkB a).toList != ([] : List UInt8)) = true := by
      rw [Lib.toList_data]
      show (bs (mkB a) != []) = true
      rw [hA]
      simpa using ha
    have hne2 : ((mkB a).toList == ([] : List UInt8)) = false := by
      rw [Lib.toList_data]
      show (bs (mkB a) == []) = false
      rw [hA]
      simpa using ha
    have hne3 : (mkB a).toList.isEmpty = false := by
      rw [Lib.toList_data]
      show (bs (mkB a)).isEmpty = false
      rw [hA]
      cases a with
      | nil => exact absurd rfl ha
      | cons _ _ => rfl
    cases f
    · have HN : Hid (tagOf (bs s) = none) := Lib.hid (by rw [HZ, if_neg (fun h => absurd h.1 (by decide))])
      have hx : (tagOf (bs s)).isSome = false := by rw [HN.out]; rfl
      rw [hx]
      clear HZ HL hA hx ha
      go_enter Tryz.func16, Tryz.ntmps16
      go_wp2_with (go_at_call 14; refine (HC.out _).mono ?_; rintro e w' ⟨rfl, hb⟩; have HB := Lib.hid hb; clear hb)
      go_ret3
      exact ⟨⟨_, _, rfl, fun x hx => by rw [HN.out] at hx; cases hx⟩, HB.out⟩
    · cases g
      · have HN : Hid (tagOf (bs s) = some (a, b)) := Lib.hid (by rw [HZ, if_pos ⟨rfl, ha, rfl⟩])
        have hx : (tagOf (bs s)).isSome = true := by rw [HN.out]; rfl
        rw [hx]
        clear HZ hA hx ha
        go_enter Tryz.func16, Tryz.ntmps16
        go_wp2_with (first
          | (go_at_call 14; refine (HC.out _).mono ?_; rintro e w' ⟨rfl, hb⟩; have HB := Lib.hid hb; clear hb)
          | (go_at_call 51; refine (HL.out _).mono ?_; rintro e w2 ⟨rfl, hb⟩; have HB2 := Lib.hid hb; clear hb))
        go_ret3
        exact ⟨⟨_, _, rfl, fun x hx => by rw [HN.out] at hx; cases hx; exact ⟨rfl, rfl⟩⟩, HB.out.trans (HB2.out.mono HB.out.size)⟩
      · have HN : Hid (tagOf (bs s) = none) := Lib.hid (by rw [HZ, if_neg (fun h => absurd h.2.2 (by decide))])
        have hx : (tagOf (bs s)).isSome = false := by rw [HN.out]; rfl
        rw [hx]
        clear HZ hA hx ha
        go_enter Tryz.func16, Tryz.ntmps16
        go_wp2_with (first
          | (go_at_call 14; refine (HC.out _).mono ?_; rintro e w' ⟨rfl, hb⟩; have HB := Lib.hid hb; clear hb)
          | (go_at_call 51; refine (HL.out _).mono ?_; rintro e w2 ⟨rfl, hb⟩; have HB2 := Lib.hid hb; clear hb))
        go_ret3
        exact ⟨⟨_, _, rfl, fun x hx => by rw [HN.out] at hx; cases hx⟩, HB.out.trans (HB2.out.mono HB.out.size)⟩
end Go.Proofs.YtjcefgjgjhdbpaaGreatDoor
