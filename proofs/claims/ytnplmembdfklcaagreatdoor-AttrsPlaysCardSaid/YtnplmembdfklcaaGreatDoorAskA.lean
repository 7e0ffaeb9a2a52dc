/-
  One call of both stores: what they keep between them; Dir, Path. Helper text; the conditions are those typed.
-/
import Derived.Test.YtnplmembdfklcaaGreatDoorBothC
import Derived.Test.YtnplmembdfklcaaGreatDoorGetB
import Derived.Test.YtnplmembdfklcaaGreatDoorRefI
import Derived.Test.YtnplmembdfklcaaGreatDoorArgOps
namespace Go.Proofs.YtnplmembdfklcaaGreatDoor
set_option linter.unusedVariables false
set_option linter.unusedSimpArgs false
open Go.RowKit Go.Maps

theorem RefIn.keepF {w w' : World} {B : Nat} {role role' : Nat → Role} {M : Nat} {vL vK vN vD : Value} {rt : RefT} (h : RefIn w B role M vL vK vN vD rt) (hs : Step (fun r => r = .free) role w role' w') (hB : B ≤ w.heap.size) : RefIn w' B role' M vL vK vN vD rt :=
  ⟨h.box.to (h.blk hs h.rM (by simp) (by simp)).1, ownsRow_to h.l fun g hg => (h.blk hs (h.rL g hg) (by simp) (by simp)).1, ownsRow_to h.keys fun g hg => (h.blk hs (h.rK g hg) (by simp) (by simp)).1, ownsRow_to h.kinds fun g hg => (h.blk hs (h.rN g hg) (by simp) (by simp)).1, ownsRow_to h.dirs fun g hg => (h.blk hs (h.rD g hg) (by simp) (by simp)).1,
    fun p hp => h.cont_to hs (by simp) (h.cont p hp), (h.blk hs h.rM (by simp) (by simp)).2, fun g hg => (h.blk hs (h.rL g hg) (by simp) (by simp)).2, fun g hg => (h.blk hs (h.rK g hg) (by simp) (by simp)).2, fun g hg => (h.blk hs (h.rN g hg) (by simp) (by simp)).2, fun g hg => (h.blk hs (h.rD g hg) (by simp) (by simp)).2, hs.lo (h := h.lo) hB, hs.inn⟩
theorem StoreIn.keepF {w w' : World} {B : Nat} {role role' : Nat → Role} {S K V L : Nat} {vk vd : Value} {ib : Int → Option Nat} {sl : Int → ByteArray → Value} {n : Nat} {st : StT} (h : StoreIn w B role S K V L vk vd ib sl n st) (hs : Step (fun r => r = .free) role w role' w') (hB : B ≤ w.heap.size) : StoreIn w' B role' S K V L vk vd ib sl n st := by
  refine ⟨h.box.to (h.blk hs h.rS (by simp) (by simp)).1, ownsRow_to h.keys fun g hg => (h.blk hs (h.rk g hg) (by simp) (by simp)).1, h.kinds.block (h.blk hs h.rK (by simp) (by simp)).1, h.values.block (h.blk hs h.rV (by simp) (by simp)).1,
    fun id b hb => (h.inner id b hb).block (h.blk hs (h.ri id b hb) (by simp) (by simp)).1, h.hasv, fun id key v hv => h.cont_to hs (by simp) (h.cont id key v hv), ownsRow_to h.dirs fun g hg => (h.blk hs (h.rd g hg) (by simp) (by simp)).1, h.places.block (h.blk hs h.rL (by simp) (by simp)).1,
    (h.blk hs h.rS (by simp) (by simp)).2, (h.blk hs h.rK (by simp) (by simp)).2, (h.blk hs h.rV (by simp) (by simp)).2, (h.blk hs h.rL (by simp) (by simp)).2, fun g hg => (h.blk hs (h.rk g hg) (by simp) (by simp)).2, fun g hg => (h.blk hs (h.rd g hg) (by simp) (by simp)).2, fun id b hb => (h.blk hs (h.ri id b hb) (by simp) (by simp)).2, hs.lo (h := h.lo) hB, hs.inn⟩
/-- Another's step leaves what is no part of it. -/
theorem Step.beside {role role' r2 : Nat → Role} {w w' : World} (hm : Moved role w role' w') (hi : Inn r2 w) (hap : ∀ b, role b ≠ .free → r2 b = .free) : Step (fun r => r = .free) r2 w r2 w' ∧ ∀ b, role' b ≠ .free → r2 b = .free :=
  ⟨⟨hm.os, hm.tape, hm.output, hm.size, fun b hb hr => ⟨(hm.block hb (by
      by_cases e : role b = .free
      · exact e
      · exact absurd (hap b e) hr)).1, rfl⟩, fun b hr => ⟨Nat.lt_of_lt_of_le (hi b hr) hm.size, .inl hr⟩⟩, fun b hr => by
    rcases (hm.dom b hr).2 with h1 | h1
    · exact hap b h1
    · exact hi.free h1⟩

/-- Both stores in memory, and the law's start. -/
structure Duo (w0 : World) (S K V L M : Nat) (role r2 : Nat → Role) (vk vd : Value) (ib : Int → Option Nat) (sl : Int → ByteArray → Value) (n : Nat) (vL vK vN vD : Value) (st : StT) (rt : RefT) (wr : World) : Prop where
  below : Below w0.heap.size w0 wr
  store : StoreIn wr w0.heap.size role S K V L vk vd ib sl n st
  ref : RefIn wr w0.heap.size r2 M vL vK vN vD rt
  apart : ∀ b, role b ≠ .free → r2 b = .free
section
variable {w0 : World} {S K V L M : Nat} {role r2 : Nat → Role} {vk vd : Value} {ib : Int → Option Nat} {sl : Int → ByteArray → Value} {n : Nat} {vL vK vN vD : Value} {st : StT} {rt : RefT} {wr w' : World}
theorem Duo.up (h : Duo w0 S K V L M role r2 vk vd ib sl n vL vK vN vD st rt wr) (hb : Below wr.heap.size wr w') : Duo w0 S K V L M role r2 vk vd ib sl n vL vK vN vD st rt w' :=
  ⟨h.below.trans (below_to hb h.below.size), h.store.below h.below.size hb, h.ref.below h.below.size hb, h.apart⟩
theorem Duo.lo (h : Duo w0 S K V L M role r2 vk vd ib sl n vL vK vN vD st rt wr) : (∀ b, b < w0.heap.size → role b = .free) ∧ ∀ b, b < w0.heap.size → r2 b = .free := by
  refine ⟨fun b hb => ?_, fun b hb => ?_⟩
  · by_cases e : role b = .free
    · exact e
    · have := h.store.lo b e; omega
  · by_cases e : r2 b = .free
    · exact e
    · have := h.ref.lo b e; omega
theorem Duo.apart' (h : Duo w0 S K V L M role r2 vk vd ib sl n vL vK vN vD st rt wr) : ∀ b, r2 b ≠ .free → role b = .free := fun b hb => by
  by_cases e : role b = .free
  · exact e
  · exact absurd (h.apart b e) hb
theorem Duo.step1 (h : Duo w0 S K V L M role r2 vk vd ib sl n vL vK vN vD st rt wr) {role' : Nat → Role} {vk' vd' : Value} {ib' : Int → Option Nat} {sl' : Int → ByteArray → Value} {n' : Nat} {st' : StT} (hm : Moved role wr role' w') (hs : StoreIn w' w0.heap.size role' S K V L vk' vd' ib' sl' n' st') :
    Duo w0 S K V L M role' r2 vk' vd' ib' sl' n' vL vK vN vD st' rt w' := by
  obtain ⟨h1, h2⟩ := Step.beside hm h.ref.hi h.apart
  exact ⟨(hm.out h.below h.below.size h.lo.1).1, hs, h.ref.keepF h1 h.below.size, h2⟩
theorem Duo.step2 (h : Duo w0 S K V L M role r2 vk vd ib sl n vL vK vN vD st rt wr) {r2' : Nat → Role} {vL' vK' vN' vD' : Value} {rt' : RefT} (hm : Moved r2 wr r2' w') (hs : RefIn w' w0.heap.size r2' M vL' vK' vN' vD' rt') :
    Duo w0 S K V L M role r2' vk vd ib sl n vL' vK' vN' vD' st rt' w' := by
  obtain ⟨h1, h2⟩ := Step.beside hm h.store.hi h.apart'
  refine ⟨(hm.out h.below h.below.size h.lo.2).1, h.store.keepF h1 h.below.size, hs, fun b hb => ?_⟩
  by_cases e : r2' b = .free
  · exact e
  · exact absurd (h2 b e) hb
theorem Duo.set_free (h : Duo w0 S K V L M role r2 vk vd ib sl n vL vK vN vD st rt wr) {b : Nat} (h1 : role b = .free) (h2 : r2 b = .free) (hb : w0.heap.size ≤ b) (o : Nat) (x : Value) : Duo w0 S K V L M role r2 vk vd ib sl n vL vK vN vD st rt (wr.setCell ⟨b, o, none⟩ x) :=
  ⟨below_sc h.below hb o x, h.store.set_free h1 o x, h.ref.set_free h2 o x, h.apart⟩
end
/-- What is so between two calls of a script. -/
def Pair (w0 : World) (S K V L M : Nat) (i : Nat) (wr : World) : Prop :=
  ∃ role r2 vk vd ib sl n vL vK vN vD st rt, Duo w0 S K V L M role r2 vk vd ib sl n vL vK vN vD st rt wr ∧ n ≤ 3 * i ∧ Both st rt ∧ PathsOK st.dirs
def AskPost (w0 : World) (S K V L M : Nat) (i : Nat) (e : Ending) (w' : World) : Prop := e = .returned (.bool true) ∧ Pair w0 S K V L M (i + 1) w'
def opAgg (o : OpT) (vl : Value) : Value := .agg #[.int .i64 o.kind, .int .i64 o.id, .string o.key, .int .i64 o.v.kind, .int .i64 o.v.num, .string o.v.text, vl, .int .i64 o.how, .string o.text]
theorem opBox (w : World) (o : OpT) (vl : Value) : BoxN (w.alloc (.cells #[.int .i64 o.kind, .int .i64 o.id, .string o.key, .int .i64 o.v.kind, .int .i64 o.v.num, .string o.v.text, vl, .int .i64 o.how, .string o.text] 33)) w.heap.size (opCells o vl) 33 := boxN_alloc _ _ _

section
variable {w0 : World} {S K V L M : Nat} {role r2 : Nat → Role} {vk vd : Value} {ib : Int → Option Nat} {sl : Int → ByteArray → Value} {n : Nat} {vL vK vN vD : Value} {st : StT} {rt : RefT} {wr w' : World}
theorem Both.dtexts (h : Both st rt) : rt.dirs = Go.Proofs.YtnplmembdfklcaaGreatDoor.dtexts st.dirs := h.dirs
set_option maxHeartbeats 4000000 in
set_option maxRecDepth 100000 in
theorem ask_path (i : Nat) (h : Duo w0 S K V L M role r2 vk vd ib sl n vL vK vN vD st rt wr) (hn : n ≤ 3 * i) (hb : Both st rt) (hp : PathsOK st.dirs) (o : OpT) (la : Option Addr) (ln lc : Nat) (hk : o.kind = 6) :
    Calls Tryz.prog 8 #[.pointer (some ⟨S, 0, none⟩), .pointer (some ⟨M, 0, none⟩), opAgg o (.slice la ln lc)] wr (AskPost w0 S K V L M i) := by
  obtain ⟨W1, hW1⟩ : ∃ W1, wr.alloc (.cells #[.int .i64 o.kind, .int .i64 o.id, .string o.key, .int .i64 o.v.kind, .int .i64 o.v.num, .string o.v.text, .slice la ln lc, .int .i64 o.how, .string o.text] 33) = W1 := ⟨_, rfl⟩
  have HX : Hid (Below wr.heap.size wr W1 ∧ BoxN W1 wr.heap.size (opCells o (.slice la ln lc)) 33) := by
    rw [← hW1]
    exact ⟨below1 _ _, opBox _ _ _⟩
  have HD := Lib.hid (h.up HX.out.1)
  have H1 := Lib.hid (path_c HD.out.store (by have := hb.dlen; omega) o.id)
  have HC : Hid (∀ W, Below W1.heap.size W1 W → W.cell? ⟨wr.heap.size, 1, none⟩ = some (.int .i64 o.id)) := fun W hw => cell_tr hw (HX.out.2.cell (j := 1) rfl)
  have HE : Hid (∀ W, Below W1.heap.size W1 W → AskPost w0 S K V L M i (.returned (.bool true)) W) := fun W hw => ⟨rfl, _, _, _, _, _, _, _, _, _, _, _, _, _, HD.out.up hw, by omega, hb, hp⟩
  have H2 : Hid (∀ W, Below W1.heap.size W1 W → Calls Tryz.prog 28 #[.pointer (some ⟨M, 0, none⟩), .int .i64 o.id] W fun e w' => e = .returned (pathAns st.dirs o.id) ∧ Below W.heap.size W w') := fun W hw => by
    have := rpath_c (HD.out.up hw).ref (HD.out.up hw).below.size o.id
    rw [hb.dtexts, path_ans hb.dok hp] at this
    exact this
  obtain ⟨ps, pu, pe, hpa⟩ : ∃ ps pu pe, pathAns st.dirs o.id = .tuple #[.string ps, .int .i64 pu, .int .i64 pe] := by
    unfold pathAns
    split
    · exact ⟨_, _, _, rfl⟩
    · exact ⟨_, _, _, rfl⟩
  rw [hpa] at H1 H2
  have c0 := HX.out.2.cell (j := 0) rfl
  have c1 := HX.out.2.cell (j := 1) rfl
  rw [hk] at c0
  have q1 : (ps.toList == ps.toList) = true := by simp
  rw [hk] at hW1
  unfold opAgg
  rw [hk]
  clear h hn hb hp hpa hk HD
  generalize AskPost w0 S K V L M i = Q at HE ⊢
  go_enter Tryz.func8, Tryz.ntmps8
  go_upto_region 33 with (go_at_call 16; refine H1.out.mono ?_; rintro e w2 ⟨rfl, hb2⟩; have c2 := HC.out w2 hb2)
  have HB2 := Lib.hid hb2
  clear hb2 c0 c1
  go_wp2_with (go_at_call 28; refine (H2.out w2 HB2.out).mono ?_; rintro e w3 ⟨rfl, hb3⟩)
  exact HE.out _ (below_tr HB2.out hb3)
theorem Both.dir (h : Both st rt) (p : ByteArray) : Both { st with dirs := (dirRun st.dirs p).1 } { rt with dirs := rdirSt rt.dirs p } := by
  have hd : DirsOK (dirRun st.dirs p).1 ∧ (dirRun st.dirs p).1.length ≤ 2000 := by
    by_cases e : dirErr st.dirs p = 0
    · obtain ⟨_, h1, _, h2, _⟩ := dir_ok h.dok h.dlen e
      exact ⟨h1, h2⟩
    · unfold dirRun
      rw [if_neg e]
      exact ⟨h.dok, h.dlen⟩
  refine ⟨h.keys, h.nd, h.klen, h.kind, h.val, h.one, ⟨h.kok.len, h.kok.name, h.kok.of⟩, h.sok, ?_, hd.1, hd.2⟩
  show rdirSt rt.dirs p = _
  rw [h.dtexts]
  exact (dir_num h.dok h.dlen p).2
set_option maxHeartbeats 4000000 in
set_option maxRecDepth 100000 in
theorem ask_dir (i : Nat) (h : Duo w0 S K V L M role r2 vk vd ib sl n vL vK vN vD st rt wr) (hn : n ≤ 3 * i) (hb : Both st rt) (hp : PathsOK st.dirs) (o : OpT) (la : Option Addr) (ln lc : Nat) (hk : o.kind = 5) :
    Calls Tryz.prog 8 #[.pointer (some ⟨S, 0, none⟩), .pointer (some ⟨M, 0, none⟩), opAgg o (.slice la ln lc)] wr (AskPost w0 S K V L M i) := by
  obtain ⟨W1, hW1⟩ : ∃ W1, wr.alloc (.cells #[.int .i64 o.kind, .int .i64 o.id, .string o.key, .int .i64 o.v.kind, .int .i64 o.v.num, .string o.v.text, .slice la ln lc, .int .i64 o.how, .string o.text] 33) = W1 := ⟨_, rfl⟩
  have HX : Hid (Below wr.heap.size wr W1 ∧ BoxN W1 wr.heap.size (opCells o (.slice la ln lc)) 33) := by
    rw [← hW1]
    exact ⟨below1 _ _, opBox _ _ _⟩
  have HD := Lib.hid (h.up HX.out.1)
  have HF : Hid (role wr.heap.size = .free ∧ r2 wr.heap.size = .free) := ⟨h.store.hi.free (Nat.le_refl _), h.ref.hi.free (Nat.le_refl _)⟩
  have HBO := Lib.hid hb
  have HPA := Lib.hid hp
  have H1 := Lib.hid (dir_c HD.out.store HD.out.below.size hb.dlen o.text)
  obtain ⟨dn, hdn⟩ : ∃ dn, (dirRun st.dirs o.text).2 = dn := ⟨_, rfl⟩
  obtain ⟨de, hde⟩ : ∃ de, dirErr st.dirs o.text = de := ⟨_, rfl⟩
  have HNUM := dir_num hb.dok hb.dlen o.text
  have HERR := dir_err hb.dok o.text
  rw [← hb.dtexts] at HNUM HERR
  rw [hdn] at HNUM
  rw [hde] at HERR
  replace HNUM := Lib.hid HNUM
  replace HERR := Lib.hid HERR
  unfold DirPost at H1
  rw [hdn, hde] at H1
  have c0 := HX.out.2.cell (j := 0) rfl
  have c8 := HX.out.2.cell (j := 8) rfl
  rw [hk] at c0
  rw [hk] at hW1
  unfold opAgg
  rw [hk]
  have hn' := Lib.hid hn
  clear h hb hp hk hn hdn hde
  have HE : Hid (∀ e w', AskPost w0 S K V L M i e w' → AskPost w0 S K V L M i e w') := fun _ _ h => h
  obtain ⟨Q, hQ⟩ : ∃ Q, AskPost w0 S K V L M i = Q := ⟨_, rfl⟩
  rw [hQ]
  replace hQ := Lib.hid hQ
  go_enter Tryz.func8, Tryz.ntmps8
  go_upto_region 29 with (go_at_call 15; refine H1.out.mono ?_; rintro e w2 ⟨rfl, role', vd', hm2, hs2⟩)
  have HD2 := Lib.hid (HD.out.step1 hm2 hs2)
  have c82 : w2.cell? ⟨wr.heap.size, 8, none⟩ = some (.string o.text) := by
    have hlt := HX.out.2.lt
    exact cell_blk (hm2.block hlt HF.out.1).1 (HX.out.2.cell (j := 8) rfl)
  have H2 := Lib.hid (rdir_c HD2.out.ref HD2.out.below.size (by rw [HBO.out.dtexts]; show (List.map _ _).length ≤ _; rw [List.length_map]; exact HBO.out.dlen) o.text)
  unfold RDirPost at H2
  rw [HNUM.out.1, HERR.out] at H2
  clear hm2 hs2 c0 c8
  go_wp2_with (go_at_call 27; refine H2.out.mono ?_; rintro e w3 ⟨rfl, r2', vD', hm3, hs3⟩)
  have HF3 : Hid (Q (.returned (.bool true)) w3) := by
    rw [Hid, ← hQ.out]
    exact ⟨rfl, _, _, _, _, _, _, _, _, _, _, _, _, _, HD2.out.step2 hm3 hs3, by have := hn'.out; omega, HBO.out.dir o.text, dir_paths HPA.out o.text⟩
  exact HF3.out
end
end Go.Proofs.YtnplmembdfklcaaGreatDoor
