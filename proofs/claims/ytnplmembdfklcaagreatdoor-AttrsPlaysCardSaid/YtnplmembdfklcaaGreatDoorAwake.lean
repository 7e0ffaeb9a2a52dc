/-
  What all statements ask at their head: calls whose answers the document fixes. Helper text; the conditions are those typed.
-/
import Derived.Test.YtnplmembdfklcaaGreatDoorGetA
import Derived.Test.YtnplmembdfklcaaGreatDoorWalkC
namespace Go.Proofs.YtnplmembdfklcaaGreatDoor
set_option linter.unusedVariables false
set_option linter.unusedSimpArgs false
open Go.RowKit Go.Maps

def kSize : ByteArray := ⟨#[115, 105, 122, 101]⟩
def vTen : ValT := ⟨1, 10, ⟨#[]⟩, []⟩
def vX : ValT := ⟨2, 0, ⟨#[120]⟩, []⟩
theorem strs_none (w : World) (S : Nat → Prop) : StrsV w S [] (.slice none 0 0) := ⟨none, 0, rfl, by simp, by decide, fun h => absurd rfl h⟩
theorem name_size : nameB kSize = true := by kernel_rfl
theorem err1 : setErr st0 3 kSize vTen = 0 := by
  unfold setErr
  rw [if_neg (by decide), if_neg (by rw [name_size]; decide), if_neg (by decide), if_neg (by decide)]
  rfl
theorem err2 : setErr (setSt st0 3 kSize vTen) 4 kSize vX = 81 := by
  unfold setErr
  rw [if_neg (by decide), if_neg (by rw [name_size]; decide), if_neg (by decide), if_neg (by decide)]
  have : (setSt st0 3 kSize vTen).kind kSize = some 1 := by
    unfold setSt
    simp
    rfl
  rw [this]
  rfl
theorem got : (setSt st0 3 kSize vTen).val 3 kSize = some vTen := by
  unfold setSt
  simp
def pLib : ByteArray := ⟨#[47, 117, 115, 114, 47, 108, 105, 98]⟩
theorem ups_lib : upsL pLib = some [[47, 117, 115, 114], [47, 117, 115, 114, 47, 108, 105, 98]] := by kernel_rfl
theorem dir1 : dirErr [([47], 0)] pLib = 0 := by
  unfold dirErr
  rw [ups_lib]
  rfl
theorem dir2 : (dirRun [([47], 0)] pLib).2 = 2 := by
  unfold dirRun
  rw [dir1, if_pos rfl, ups_lib]
  kernel_rfl
theorem fit1 : fitsB 4 (bs ⟨#[97, 42, 98, 42, 99]⟩) (bs ⟨#[97, 88, 98, 89, 98, 99]⟩) = true := by decide
/-- What a store's blocks leave below. -/
theorem Moved.out {B : Nat} {w w1 w2 : World} {r1 r2 : Nat → Role} (hm : Moved r1 w1 r2 w2) (hb : Below B w w1) (hB : B ≤ w1.heap.size) (hf : ∀ b, b < B → r1 b = .free) : Below B w w2 ∧ ∀ b, b < B → r2 b = .free :=
  ⟨⟨hm.os.trans hb.os, hm.tape.trans hb.tape, hm.output.trans hb.output, Nat.le_trans hb.size hm.size, fun b h => (hm.block (Nat.lt_of_lt_of_le h hB) (hf b h)).1.trans (hb.block b h)⟩, fun b h => (hm.block (Nat.lt_of_lt_of_le h hB) (hf b h)).2⟩

section
variable {w : World} {B : Nat} {role : Nat → Role} {S K V L : Nat} {vk vd : Value} {ib : Int → Option Nat} {sl : Int → ByteArray → Value} {n : Nat} {st : StT}
/-- Set that does, and one that does not. -/
def DonePost (role : Nat → Role) (w : World) (B S K V L : Nat) (vd : Value) (n : Nat) (st : StT) (x : Int) (e : Ending) (w' : World) : Prop :=
  e = .returned (.int .i64 x) ∧ ∃ role' vk' ib' sl', Moved role w role' w' ∧ StoreIn w' B role' S K V L vk' vd ib' sl' n st
theorem SetPost.done {id : Int} {key : ByteArray} {v : ValT} {x : Int} {st' : StT} (he : setErr st id key v = x) (hst : (if x = 0 then setSt st id key v else st) = st') {e : Ending} {w' : World} (h : SetPost role w B S K V L vd n st id key v e w') : DonePost role w B S K V L vd (n + 3) st' x e w' := by
  unfold SetPost at h
  rw [he, hst] at h
  exact h
end

set_option maxHeartbeats 4000000 in
set_option maxRecDepth 100000 in
theorem awake_c (w : World) : Calls Tryz.prog 5 #[] w fun e w' => e = .returned (.bool true) ∧ Below w.heap.size w w' := by
  go_enter Tryz.func5, Tryz.ntmps5
  go_upto_region 4 with (go_at_call 6; refine (new_c w.heap.size w (Nat.le_refl _)).mono ?_; rintro e w1 ⟨⟨S, rfl, HNEW⟩, hb1⟩)
  obtain ⟨role1, K, V, L, vd, hs1, hf1⟩ := HNEW
  have HS1 := Lib.hid hs1
  have HB1 : Hid (Below w.heap.size w w1 ∧ ∀ b, b < w.heap.size → role1 b = .free) := ⟨hb1, hf1⟩
  obtain ⟨st1, hst1⟩ : ∃ st1, setSt st0 3 kSize vTen = st1 := ⟨_, rfl⟩
  have HC1 : Hid (Calls Tryz.prog 18 #[.pointer (some ⟨S, 0, none⟩), .int .i64 3, .string ⟨#[115, 105, 122, 101]⟩, .agg #[.int .i64 1, .int .i64 10, .string ⟨#[]⟩, .slice none 0 0]] w1 (DonePost role1 w1 w.heap.size S K V L vd 3 st1 0)) := (set_c HS1.out HB1.out.1.size (by decide) (by decide) 3 kSize (by decide) vTen none 0 0 (fun _ => False) (strs_none _ _) (fun b h => h.elim)).mono fun e w' h => h.done err1 ((if_pos rfl).trans hst1)
  have hk2 : st1.keys.length ≤ 64 := by
    rw [← hst1]
    unfold setSt
    rw [if_pos (show st0.kind kSize = none from rfl)]
    decide
  have hd2 : st1.dirs = [([47], 0)] := by rw [← hst1]; rfl
  have hg2 : st1.val 3 kSize = some vTen := by rw [← hst1]; exact got
  have he2 : setErr st1 4 kSize vX = 81 := by rw [← hst1]; exact err2
  replace hst1 := Lib.hid hst1
  replace hk2 := Lib.hid hk2
  replace hd2 := Lib.hid hd2
  replace hg2 := Lib.hid hg2
  replace he2 := Lib.hid he2
  clear hs1 hb1 hf1
  go_upto_region 5 with (go_at_call 18; refine HC1.out.mono ?_; rintro e w2 ⟨rfl, role2, vk2, ib2, sl2, hm2, hs2⟩)
  have HB2 : Hid (Below w.heap.size w w2 ∧ ∀ b, b < w.heap.size → role2 b = .free) := hm2.out HB1.out.1 HB1.out.1.size HB1.out.2
  have HS2 := Lib.hid hs2
  clear hm2 hs2 HC1 HS1 HB1
  have HC2 : Hid (Calls Tryz.prog 18 #[.pointer (some ⟨S, 0, none⟩), .int .i64 4, .string ⟨#[115, 105, 122, 101]⟩, .agg #[.int .i64 2, .int .i64 0, .string ⟨#[120]⟩, .slice none 0 0]] w2 (DonePost role2 w2 w.heap.size S K V L vd 6 st1 81)) := (set_c HS2.out HB2.out.1.size (by decide) hk2.out 4 kSize (by decide) vX none 0 0 (fun _ => False) (strs_none _ _) (fun b h => h.elim)).mono fun e w' h => h.done he2.out (if_neg (by decide))
  go_upto_region 6 with (go_at_call 18; refine HC2.out.mono ?_; rintro e w3 ⟨rfl, role3, vk3, ib3, sl3, hm3, hs3⟩)
  have HB3 : Hid (Below w.heap.size w w3 ∧ ∀ b, b < w.heap.size → role3 b = .free) := hm3.out HB2.out.1 HB2.out.1.size HB2.out.2
  have HS3 := Lib.hid hs3
  clear hm3 hs3 HC2 HS2 HB2
  have HC3 : Hid (Calls Tryz.prog 13 #[.pointer (some ⟨S, 0, none⟩), .int .i64 3, .string ⟨#[115, 105, 122, 101]⟩] w3 fun e w' => (∃ a' c', e = .returned (.tuple #[.agg #[.int .i64 1, .int .i64 10, .string ⟨#[]⟩, .slice a' 0 c'], .int .i64 0])) ∧ Below w3.heap.size w3 w') := by
    have := get_c HS3.out HB3.out.1.size (id := 3) (key := kSize) (by decide) (by decide)
    rw [hg2.out] at this
    exact this.mono fun e w' ⟨⟨a', c', h, _⟩, hb⟩ => ⟨⟨a', c', h⟩, hb⟩
  go_upto_region 7 with (go_at_call 13; refine HC3.out.mono ?_; rintro e w4 ⟨⟨a4, c4, rfl⟩, hb4⟩)
  obtain ⟨w5, e5⟩ : ∃ w5, w4.alloc (.cells #[.int .i64 1, .int .i64 10, .string ⟨#[]⟩, .slice a4 0 c4] 31) = w5 := ⟨_, rfl⟩
  have HX5 : Hid (Below w3.heap.size w3 w5 ∧ BoxN w5 w4.heap.size [.int .i64 1, .int .i64 10, .string ⟨#[]⟩, .slice a4 0 c4] 31) := by
    rw [← e5]
    exact ⟨below_tr hb4 (below1 _ _), boxN_alloc _ _ _⟩
  have hlt4 : w3.heap.size ≤ w4.heap.size := hb4.size
  have HS5 := Lib.hid (HS3.out.below HB3.out.1.size HX5.out.1)
  have HM5 := (Moved.of_below HS3.out.hi HX5.out.1).out HB3.out.1 HB3.out.1.size HB3.out.2
  replace HM5 := Lib.hid HM5
  have hfr : role3 w4.heap.size = .free := HS3.out.hi.free hlt4
  replace hfr := Lib.hid hfr
  replace hlt4 := Lib.hid hlt4
  have HC4 : Hid (Calls Tryz.prog 15 #[.pointer (some ⟨S, 0, none⟩), .string ⟨#[47, 117, 115, 114, 47, 108, 105, 98]⟩] w5 fun e w' => e = .returned (.tuple #[.int .i64 2, .int .i64 0]) ∧ ∃ role', Moved role3 w5 role' w') := by
    have := dir_c HS5.out HM5.out.1.size (by rw [hd2.out]; decide) pLib
    refine this.mono fun e w' h => ?_
    unfold DirPost at h
    rw [hd2.out, dir1, dir2] at h
    obtain ⟨h1, role', vd', h2, _⟩ := h
    exact ⟨h1, role', h2⟩
  rw [e5]
  clear e5 hb4 HC3 HS3 HB3
  have HF : Hid (∀ w, Calls Tryz.prog 21 #[.int .i64 4, .string ⟨#[97, 42, 98, 42, 99]⟩, .string ⟨#[97, 88, 98, 89, 98, 99]⟩] w fun e w' => e = .returned (.bool true) ∧ Below w.heap.size w w') := fun w => by
    have := fits_c 4 ⟨#[97, 42, 98, 42, 99]⟩ ⟨#[97, 88, 98, 89, 98, 99]⟩ (by decide) (by decide) (fun h => absurd h (by decide)) w (fun h => absurd h (by decide))
    rw [fit1] at this
    exact this
  go_upto_region 8 with (go_at_call 15; refine HC4.out.mono ?_; rintro e w6 ⟨rfl, role6, hm6⟩)
  have HM6 := hm6.out HM5.out.1 HM5.out.1.size HM5.out.2
  have p1 : w6.cell? ⟨w4.heap.size, 1, none⟩ = some (.int .i64 10) := (HX5.out.2.to (hm6.block HX5.out.2.lt hfr.out).1).cell (j := 1) rfl
  replace HM6 := Lib.hid HM6
  clear hm6 HC4 HX5 HS5
  go_wp2_with (go_at_call 21; refine (HF.out _).mono ?_; rintro e w7 ⟨rfl, hb7⟩)
  go_ret
  exact ⟨rfl, HM6.out.1.trans (below_to hb7 HM6.out.1.size)⟩
end Go.Proofs.YtnplmembdfklcaaGreatDoor
