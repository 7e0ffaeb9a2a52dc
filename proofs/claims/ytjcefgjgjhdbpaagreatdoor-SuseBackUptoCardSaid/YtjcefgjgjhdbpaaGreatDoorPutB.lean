/-
  A value is taken: the vendor; a tag that says nothing. Helper text; the conditions are those typed.
  A value is taken: a tag that says nothing; a list's value that is none. Helper text; the conditions are those typed.
-/
import Derived.Test.YtjcefgjgjhdbpaaGreatDoorListF
import Derived.Test.YtjcefgjgjhdbpaaGreatDoorRdrB
namespace Go.Proofs.YtjcefgjgjhdbpaaGreatDoor
set_option linter.unusedVariables false
set_option linter.unusedSimpArgs false
open Go.RowKit Go.Maps

theorem OutO.setB {w : World} {L B M : Nat} {K : Nat → Prop} {out : List PkgT} {vo : Value} (h : OutO w L B M K out vo) (o : Nat) (x : Value) : OutO (w.setCell ⟨B, o, none⟩ x) L B M K out vo :=
  h.keep fun b hl hb' => set_other _ (fun e => by
    subst e
    rcases hb' with e | e | e
    · exact h.bm e
    · exact h.kB e
    · exact h.vB e)
theorem CurO.setB {w : World} {L B M : Nat} {K : Nat → Prop} {vo : Value} {p : SP} {v : Fin 7 → Value} {vf : Value} (h : CurO w L B M K vo p v vf) (hK : ¬ K B) (o : Nat) (x : Value) : CurO (w.setCell ⟨B, o, none⟩ x) L B M K vo p v vf :=
  h.keep (fun b hb _ => set_other _ (fun e => hK (e ▸ hb))) (fun r b _ hr => set_other _ (h.away r b hr).1)
theorem key9 {s : ByteArray} (h : s.size ≤ maxLen) : keyOf Tryz.prog 9 (.string s) = some (.string s.data.toList) := WideMaps.keyOf_string_mk Tryz.underlying9 h
set_option maxRecDepth 100000 in
/-- What the map says. -/
theorem look_c {w : World} {L B M : Nat} {K : Nat → Prop} {out : List PkgT} {vo : Value} (h : OutO w L B M K out vo) (t : ByteArray) (ht : t.size ≤ maxLen) : (Instr.lookup 38 (.map (some M)) (.string t) false).run Tryz.prog w = .ok ((tagFn t).getD .nilFunc) w := by
  obtain ⟨F, h1, h2⟩ := h.map
  rw [← h2 t]
  exact h1.run_look keyed9 Tryz.underlying38 (z := .nilFunc) (by first | kernel_rfl | simp [go_sem]) (key := .string t) (key9 ht)
set_option maxHeartbeats 1000000 in
theorem put_vnd (L B M : Nat) (K : Nat → Prop) (out : List PkgT) (p : SP) (vo : Value) (v : Fin 7 → Value) (vf : Value) (x : ByteArray) (hx : x.size ≤ maxLen) (w : World) (h : Rdr w L B M K out p true vo v vf) :
    Calls Tryz.prog 19 #[.pointer (some ⟨B, 0, none⟩), .string ⟨#[86, 110, 100]⟩, .string x] w fun e w' => e = .returned (.int .i64 0) ∧ Below L w w' ∧ Rdr w' L B M K out { p with vendor := x } true vo v vf := by
  have hl := look_c h.outs ⟨#[86, 110, 100]⟩ (by decide)
  have ht : (tagFn ⟨#[86, 110, 100]⟩).getD Value.nilFunc = .nilFunc := rfl
  rw [ht] at hl
  have c14 := h.box.cell (j := 14) rfl
  have c4 := h.box.cell (j := 4) rfl
  have f4 := h.box.frozen 4
  have HN : Hid (∀ w', w' = w.setCell ⟨B, 4, none⟩ (.string x) → Below L w w' ∧ Rdr w' L B M K out { p with vendor := x } true vo v vf) := Lib.hid <| by
    rintro w' rfl
    have hc := h.cur.setB h.outs.kB 4 (.string x)
    exact ⟨below_sc (Below.refl _ _) h.outs.lB _ _, h.box.set 4 _, h.outs.setB 4 _, ⟨hc.name, hc.evr, hc.arch, hx, hc.texts, hc.rows, hc.files, hc.apart, hc.away⟩⟩
  clear h ht
  go_enter Tryz.func19, Tryz.ntmps19
  go_wp2_with fail
  go_ret
  exact ⟨rfl, HN.out _ rfl⟩
end Go.Proofs.YtjcefgjgjhdbpaaGreatDoor
namespace Go.Proofs.YtjcefgjgjhdbpaaGreatDoor
set_option linter.unusedVariables false
set_option linter.unusedSimpArgs false
open Go.RowKit Go.Maps

theorem ne_lit {t k : ByteArray} (h : bs t ≠ bs k) : (t.toList == k.toList) = false := by
  rw [beqS]
  exact decide_eq_false (fun e => h (by rw [e]))
set_option maxHeartbeats 1000000 in
set_option maxRecDepth 100000 in
theorem put_no (L B M : Nat) (K : Nat → Prop) (out : List PkgT) (p : SP) (vo : Value) (v : Fin 7 → Value) (vf : Value) (t x : ByteArray) (ht : t.size ≤ maxLen) (h1 : bs t ≠ vndW) (h2 : bs t ≠ flsW) (h3 : listOf (bs t) = none) (w : World) (h : Rdr w L B M K out p true vo v vf) :
    Calls Tryz.prog 19 #[.pointer (some ⟨B, 0, none⟩), .string t, .string x] w fun e w' => e = .returned (.int .i64 0) ∧ w' = w := by
  have hl := look_c h.outs t ht
  have hn : (tagFn t).getD Value.nilFunc = .nilFunc := by
    unfold tagFn
    rw [h3]
    rfl
  rw [hn] at hl
  have e1 : (t.toList == [86, 110, 100]) = false := by
    have := ne_lit (k := ⟨#[86, 110, 100]⟩) h1
    rwa [Lib.toList_data (⟨#[86, 110, 100]⟩ : ByteArray)] at this
  have e2 : (t.toList == [70, 108, 115]) = false := by
    have := ne_lit (k := ⟨#[70, 108, 115]⟩) h2
    rwa [Lib.toList_data (⟨#[70, 108, 115]⟩ : ByteArray)] at this
  have c14 := h.box.cell (j := 14) rfl
  have hbn : ∀ w, (binOp .neq 70 .nilFunc .nilFunc).run Tryz.prog w = .ok (.bool false) w := fun w => by kernel_rfl
  clear h h1 h2 h3 hn
  go_enter Tryz.func19, Tryz.ntmps19
  go_wp2_with fail
  go_ret
  exact ⟨rfl, rfl⟩
end Go.Proofs.YtjcefgjgjhdbpaaGreatDoor
