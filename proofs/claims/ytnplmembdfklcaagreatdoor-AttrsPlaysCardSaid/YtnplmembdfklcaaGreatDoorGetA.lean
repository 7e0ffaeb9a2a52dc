/-
  Get: the walk. Helper text; the conditions are those typed.
-/
import Derived.Test.YtnplmembdfklcaaGreatDoorSetB
namespace Go.Proofs.YtnplmembdfklcaaGreatDoor
set_option linter.unusedVariables false
set_option linter.unusedSimpArgs false
open Go.RowKit Go.Maps

theorem store4 {W : World} {b : Nat} {x0 x1 x2 x3 : Value} {ty : TypeId} (h : BoxN W b [x0, x1, x2, x3] ty) (y0 y1 y2 y3 : Value) : BoxN ((((W.setCell ⟨b, 0, none⟩ y0).setCell ⟨b, 1, none⟩ y1).setCell ⟨b, 2, none⟩ y2).setCell ⟨b, 3, none⟩ y3) b [y0, y1, y2, y3] ty := (((h.set 0 y0).set 1 y1).set 2 y2).set 3 y3
/-- What Get answers. -/
def GetPost (o : Option ValT) (w : World) (e : Ending) (w' : World) : Prop :=
  (match o with
    | some v => ∃ a' c', e = .returned (.tuple #[.agg #[.int .i64 v.kind, .int .i64 v.num, .string v.text, .slice a' v.list.length c'], .int .i64 0]) ∧ StrsV w' (fun b => w.heap.size ≤ b) v.list (.slice a' v.list.length c')
    | none => e = .returned (.tuple #[.agg #[.int .i64 0, .int .i64 0, .string ⟨#[]⟩, .slice none 0 0], .int .i64 84])) ∧ Below w.heap.size w w'
section
variable {w w' : World} {B : Nat} {role role' : Nat → Role} {S K V L : Nat} {vk vd : Value} {ib : Int → Option Nat} {sl : Int → ByteArray → Value} {n : Nat} {st : StT}
theorem StoreIn.look_values (h : StoreIn w B role S K V L vk vd ib sl n st) {id : Int} (hid : (Lit.int .i64 id).wf = true) : (Instr.lookup 58 (.map (some V)) (.int .i64 id) false).run Tryz.prog w = .ok (.map (ib id)) w := by
  rw [h.values.run_look keyed3 Tryz.underlying58 (Tryz.zeroValue66 w) (key3 hid)]
  show Result.ok (((ib id).map fun (b : Nat) => Value.map (some b)).getD (.map none)) w = _
  cases ib id <;> rfl
theorem StoreIn.look_inner (h : StoreIn w B role S K V L vk vd ib sl n st) (id : Int) {key : ByteArray} (hkey : key.size ≤ maxLen) : (Instr.lookup 66 (.map (ib id)) (.string key) true).run Tryz.prog w =
    .ok (.tuple #[match st.val id key with | some v => .agg #[.int .i64 v.kind, .int .i64 v.num, .string v.text, sl id key] | none => .agg #[.int .i64 0, .int .i64 0, .string ⟨#[]⟩, .slice none 0 0], .bool (st.val id key).isSome]) w := by
  cases hib : ib id with
  | none =>
    rw [h.hasv id key hib]
    exact Maps.look_nil true keyed9 Tryz.underlying66 (Tryz.zeroValue31 w) (key9 hkey)
  | some b =>
    rw [(h.inner id b hib).run_look_ok keyed9 Tryz.underlying66 (Tryz.zeroValue31 w) (key9 hkey)]
    show Result.ok (Value.tuple #[((st.val id key).map fun (v : ValT) => Value.agg #[.int .i64 v.kind, .int .i64 v.num, .string v.text, sl id key]).getD _, .bool ((st.val id key).map fun (v : ValT) => Value.agg #[.int .i64 v.kind, .int .i64 v.num, .string v.text, sl id key]).isSome]) w = _
    cases st.val id key <;> rfl

set_option maxHeartbeats 4000000 in
set_option maxRecDepth 100000 in
theorem get_c (h : StoreIn w B role S K V L vk vd ib sl n st) (hB : B ≤ w.heap.size) {id : Int} (hid : (Lit.int .i64 id).wf = true) {key : ByteArray} (hkey : key.size ≤ maxLen) :
    Calls Tryz.prog 13 #[.pointer (some ⟨S, 0, none⟩), .int .i64 id, .string key] w (GetPost (st.val id key) w) := by
  obtain ⟨W1, hW1⟩ : ∃ W1, w.alloc (.cells #[.int .i64 0, .int .i64 0, .string ⟨#[]⟩, .slice none 0 0] 31) = W1 := ⟨_, rfl⟩
  have HX1 : Hid (Below w.heap.size w W1 ∧ BoxN W1 w.heap.size [.int .i64 0, .int .i64 0, .string ⟨#[]⟩, .slice none 0 0] 31 ∧ W1.heap.size = w.heap.size + 1) := by
    rw [← hW1]
    exact ⟨below1 _ _, boxN_alloc _ _ _, by simp⟩
  have HS1 := Lib.hid (h.below hB HX1.out.1)
  have hl1 := HS1.out.look_values hid
  have hl2 := HS1.out.look_inner id hkey
  have b2 := HS1.out.box.cell (j := 2) rfl
  have hco := h.cont id key
  cases hv : st.val id key with
  | none =>
    rw [hv] at hl2
    have HE : Hid (∀ w', Below w.heap.size w w' → GetPost none w (.returned (.tuple #[.agg #[.int .i64 0, .int .i64 0, .string ⟨#[]⟩, .slice none 0 0], .int .i64 84])) w') := fun w' hb => ⟨rfl, hb⟩
    generalize GetPost none w = Q at HE ⊢
    clear h hco hv
    have hl2' : (Instr.lookup 66 (.map (ib id)) (.string key) true).run Tryz.prog W1 = .ok (.tuple #[.agg #[.int .i64 0, .int .i64 0, .string ⟨#[]⟩, .slice none 0 0], .bool false]) W1 := hl2
    clear hl2
    have HX2 : Hid (Below w.heap.size w (W1.alloc (.cells #[.int .i64 0, .int .i64 0, .string ⟨#[]⟩, .slice none 0 0] 31)) ∧ BoxN (W1.alloc (.cells #[.int .i64 0, .int .i64 0, .string ⟨#[]⟩, .slice none 0 0] 31)) w.heap.size [.int .i64 0, .int .i64 0, .string ⟨#[]⟩, .slice none 0 0] 31) := ⟨below_tr HX1.out.1 (below1 _ _), HX1.out.2.1.below (below1 _ _)⟩
    have c0 := HX2.out.2.cell (j := 0) rfl
    have c1 := HX2.out.2.cell (j := 1) rfl
    have c2 := HX2.out.2.cell (j := 2) rfl
    have c3 := HX2.out.2.cell (j := 3) rfl
    have f0 := HX2.out.2.frozen 0
    have f1 := HX2.out.2.frozen 1
    have f2 := HX2.out.2.frozen 2
    have f3 := HX2.out.2.frozen 3
    have HB : Hid (∀ W, W = (W1.alloc (.cells #[.int .i64 0, .int .i64 0, .string ⟨#[]⟩, .slice none 0 0] 31)) → ∀ a b c d, Below w.heap.size w ((((W.setCell ⟨w.heap.size, 0, none⟩ a).setCell ⟨w.heap.size, 1, none⟩ b).setCell ⟨w.heap.size, 2, none⟩ c).setCell ⟨w.heap.size, 3, none⟩ d)) := fun W hW a b c d => by
      subst hW
      exact below_sc (below_sc (below_sc (below_sc HX2.out.1 (Nat.le_refl _) _ _) (Nat.le_refl _) _ _) (Nat.le_refl _) _ _) (Nat.le_refl _) _ _
    go_enter Tryz.func13, Tryz.ntmps13
    go_wp2_with fail
    have HX5 := Lib.hid (store4 HX2.out.2 (.int .i64 0) (.int .i64 0) (.string ⟨#[]⟩) (.slice none 0 0))
    have HBF := Lib.hid (HB.out _ rfl (.int .i64 0) (.int .i64 0) (.string ⟨#[]⟩) (.slice none 0 0))
    clear c0 c1 c2 c3 f0 f1 f2 f3 HB HX2 hW1
    generalize (((((W1.alloc (.cells #[.int .i64 0, .int .i64 0, .string ⟨#[]⟩, .slice none 0 0] 31)).setCell ⟨w.heap.size, 0, none⟩ (.int .i64 0)).setCell ⟨w.heap.size, 1, none⟩ (.int .i64 0)).setCell ⟨w.heap.size, 2, none⟩ (.string ⟨#[]⟩)).setCell ⟨w.heap.size, 3, none⟩ (.slice none 0 0)) = W5 at HX5 HBF ⊢
    have d0 := HX5.out.cell (j := 0) rfl
    have d1 := HX5.out.cell (j := 1) rfl
    have d2 := HX5.out.cell (j := 2) rfl
    have d3 := HX5.out.cell (j := 3) rfl
    refine bodyPost_ret (v := .tuple #[.agg #[.int .i64 0, .int .i64 0, .string ⟨#[]⟩, .slice none 0 0], .int .i64 84]) (by simp [results, Tryz.results13, go_sem, d0, d1, d2, d3]) rfl ?_
    exact HE.out _ HBF.out
  | some v =>
    rw [hv] at hl2
    obtain ⟨a, c, hsl, _⟩ := hco v hv
    have hcs := hco v hv
    rw [hsl] at hcs hl2
    obtain ⟨ln, hln⟩ : ∃ ln, v.list.length = ln := ⟨_, rfl⟩
    have HE : Hid (∀ w' a' c', Below w.heap.size w w' → StrsV w' (fun b => w.heap.size ≤ b) v.list (.slice a' ln c') → GetPost (some v) w (.returned (.tuple #[.agg #[.int .i64 v.kind, .int .i64 v.num, .string v.text, .slice a' ln c'], .int .i64 0])) w') := fun w' a' c' hb hs => by
      rw [← hln] at hs ⊢
      exact ⟨⟨a', c', rfl, hs⟩, hb⟩
    rw [hln] at hcs hl2
    generalize GetPost (some v) w = Q at HE ⊢
    have hl2' : (Instr.lookup 66 (.map (ib id)) (.string key) true).run Tryz.prog W1 = .ok (.tuple #[.agg #[.int .i64 v.kind, .int .i64 v.num, .string v.text, .slice a ln c], .bool true]) W1 := hl2
    have HW2 : Hid (Below w.heap.size w (W1.alloc (.cells #[.int .i64 v.kind, .int .i64 v.num, .string v.text, .slice a ln c] 31)) ∧ BoxN (W1.alloc (.cells #[.int .i64 v.kind, .int .i64 v.num, .string v.text, .slice a ln c] 31)) w.heap.size [.int .i64 0, .int .i64 0, .string ⟨#[]⟩, .slice none 0 0] 31 ∧ BoxN (W1.alloc (.cells #[.int .i64 v.kind, .int .i64 v.num, .string v.text, .slice a ln c] 31)) W1.heap.size [.int .i64 v.kind, .int .i64 v.num, .string v.text, .slice a ln c] 31 ∧ (W1.alloc (.cells #[.int .i64 v.kind, .int .i64 v.num, .string v.text, .slice a ln c] 31)).heap.size = W1.heap.size + 1) := ⟨below_tr HX1.out.1 (below1 _ _), HX1.out.2.1.below (below1 _ _), boxN_alloc _ _ _, by simp⟩
    have HC := Lib.hid (cloneS_c v.list a ln c _ _ (hcs.below HW2.out.1))
    have HZ : Hid (W1.heap.size = w.heap.size + 1) := HX1.out.2.2
    clear h hco hv hsl hcs hl2
    replace hln := Lib.hid hln
    go_enter Tryz.func13, Tryz.ntmps13
    go_upto_region 7 with (go_at_call 30; refine HC.out.mono ?_; rintro e w3 ⟨⟨a3, c3, rfl, hv3⟩, hb3⟩; have k3 := (HW2.out.2.2.1.below hb3).cell (j := 3) rfl; have g3 := (HW2.out.2.2.1.below hb3).frozen 3)
    obtain ⟨w4, e4⟩ : ∃ w4, w3.setCell ⟨W1.heap.size, 3, none⟩ (.slice a3 ln c3) = w4 := ⟨_, rfl⟩
    have HX4 : Hid (Below w.heap.size w w4 ∧ BoxN w4 w.heap.size [.int .i64 0, .int .i64 0, .string ⟨#[]⟩, .slice none 0 0] 31 ∧ BoxN w4 W1.heap.size [.int .i64 v.kind, .int .i64 v.num, .string v.text, .slice a3 ln c3] 31 ∧ StrsV w4 (fun b => W1.heap.size + 1 ≤ b) v.list (.slice a3 ln c3)) := by
      rw [← e4]
      have hz := HZ.out
      refine ⟨below_sc (below_tr HW2.out.1 hb3) (by omega) _ _, (HW2.out.2.1.below hb3).other (by omega) _ _, (HW2.out.2.2.1.below hb3).set 3 _, ?_⟩
      rw [← HW2.out.2.2.2]
      exact hv3.keep (fun _ h => h) (fun b hb _ => set_other _ (by have h1 := HW2.out.2.2.2; omega))
    rw [e4]
    clear k3 g3 hv3 hb3 e4 HW2 HC hW1
    have k0 := HX4.out.2.2.1.cell (j := 0) rfl
    have k1 := HX4.out.2.2.1.cell (j := 1) rfl
    have k2 := HX4.out.2.2.1.cell (j := 2) rfl
    have k3 := HX4.out.2.2.1.cell (j := 3) rfl
    have c0 := HX4.out.2.1.cell (j := 0) rfl
    have c1 := HX4.out.2.1.cell (j := 1) rfl
    have c2 := HX4.out.2.1.cell (j := 2) rfl
    have c3' := HX4.out.2.1.cell (j := 3) rfl
    have f0 := HX4.out.2.1.frozen 0
    have f1 := HX4.out.2.1.frozen 1
    have f2 := HX4.out.2.1.frozen 2
    have f3 := HX4.out.2.1.frozen 3
    go_wp2_with fail
    have HX5 := Lib.hid (store4 HX4.out.2.1 (.int .i64 v.kind) (.int .i64 v.num) (.string v.text) (.slice a3 ln c3))
    have HBF : Hid (Below w.heap.size w ((((w4.setCell ⟨w.heap.size, 0, none⟩ (.int .i64 v.kind)).setCell ⟨w.heap.size, 1, none⟩ (.int .i64 v.num)).setCell ⟨w.heap.size, 2, none⟩ (.string v.text)).setCell ⟨w.heap.size, 3, none⟩ (.slice a3 ln c3)) ∧ StrsV ((((w4.setCell ⟨w.heap.size, 0, none⟩ (.int .i64 v.kind)).setCell ⟨w.heap.size, 1, none⟩ (.int .i64 v.num)).setCell ⟨w.heap.size, 2, none⟩ (.string v.text)).setCell ⟨w.heap.size, 3, none⟩ (.slice a3 ln c3)) (fun b => w.heap.size ≤ b) v.list (.slice a3 ln c3)) := by
      refine ⟨below_sc (below_sc (below_sc (below_sc HX4.out.1 (Nat.le_refl _) _ _) (Nat.le_refl _) _ _) (Nat.le_refl _) _ _) (Nat.le_refl _) _ _, ?_⟩
      refine HX4.out.2.2.2.keep (fun b hb => by have := HZ.out; omega) (fun b hb _ => ?_)
      have hne : b ≠ w.heap.size := by have := HZ.out; omega
      rw [set_other _ hne, set_other _ hne, set_other _ hne, set_other _ hne]
    clear k0 k1 k2 k3 c0 c1 c2 c3' f0 f1 f2 f3 HX4
    generalize ((((w4.setCell ⟨w.heap.size, 0, none⟩ (.int .i64 v.kind)).setCell ⟨w.heap.size, 1, none⟩ (.int .i64 v.num)).setCell ⟨w.heap.size, 2, none⟩ (.string v.text)).setCell ⟨w.heap.size, 3, none⟩ (.slice a3 ln c3)) = W5 at HX5 HBF ⊢
    have d0 := HX5.out.cell (j := 0) rfl
    have d1 := HX5.out.cell (j := 1) rfl
    have d2 := HX5.out.cell (j := 2) rfl
    have d3 := HX5.out.cell (j := 3) rfl
    refine bodyPost_ret (v := .tuple #[.agg #[.int .i64 v.kind, .int .i64 v.num, .string v.text, .slice a3 ln c3], .int .i64 0]) (by simp [results, Tryz.results13, go_sem, d0, d1, d2, d3]) rfl ?_
    exact HE.out _ _ _ HBF.out.1 HBF.out.2
end
end Go.Proofs.YtnplmembdfklcaaGreatDoor
