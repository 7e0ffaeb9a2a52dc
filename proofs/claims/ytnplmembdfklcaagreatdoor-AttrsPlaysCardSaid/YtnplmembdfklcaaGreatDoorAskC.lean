/-
  One call of both stores: Get, and what came is written over. Helper text; the conditions are those typed.
-/
import Derived.Test.YtnplmembdfklcaaGreatDoorAskA
namespace Go.Proofs.YtnplmembdfklcaaGreatDoor
set_option linter.unusedVariables false
set_option linter.unusedSimpArgs false
open Go.RowKit Go.Maps

def noVal : ValT := ⟨0, 0, ⟨#[]⟩, []⟩
theorem get_form {o : Option ValT} {w w' : World} {e : Ending} (h : GetPost2 o w e w') : ∃ a c, e = .returned (.tuple #[.agg #[.int .i64 (o.getD noVal).kind, .int .i64 (o.getD noVal).num, .string (o.getD noVal).text, .slice a (o.getD noVal).list.length c], .int .i64 (if o = none then 84 else 0)]) ∧
    StrsV w' (fun _ => True) (o.getD noVal).list (.slice a (o.getD noVal).list.length c) ∧ OwnsC w' (o.getD noVal).list a w.heap.size ∧ Below w.heap.size w w' := by
  cases o with
  | none =>
    obtain ⟨⟨h1, h2⟩, _⟩ := h
    exact ⟨none, 0, h1, ⟨none, 0, rfl, by simp [noVal], by simp [noVal], fun h => absurd rfl h⟩, fun h => absurd rfl h, h2⟩
  | some v =>
    obtain ⟨⟨⟨a, c, h1, h2⟩, h3⟩, a', c', h4, h5⟩ := h
    rw [h1] at h4
    injection h4 with h4
    simp only [Value.tuple.injEq, Array.mk.injEq, List.cons.injEq, Value.agg.injEq, Value.slice.injEq, and_true, true_and] at h4
    obtain ⟨rfl, rfl⟩ := h4
    exact ⟨a, c, h1, h2.keep (fun _ _ => trivial) (fun _ _ _ => rfl), h5, h3⟩
theorem rget_form {st : StT} {rt : RefT} (hb : Both st rt) {w w' : World} {B M : Nat} {r2 : Nat → Role} {vL vK vN vD : Value} (hr : RefIn w B r2 M vL vK vN vD rt) {id : Int} {key : ByteArray} {e : Ending} (h : RGetPost rt.l id key w e w') :
    ∃ a c, e = .returned (.tuple #[.agg #[.int .i64 ((st.val id key).getD noVal).kind, .int .i64 ((st.val id key).getD noVal).num, .string ((st.val id key).getD noVal).text, .slice a ((st.val id key).getD noVal).list.length c], .int .i64 (if st.val id key = none then 84 else 0)]) ∧
      StrsV w' (fun _ => True) ((st.val id key).getD noVal).list (.slice a ((st.val id key).getD noVal).list.length c) ∧ Below w.heap.size w w' := by
  obtain ⟨h1, h2⟩ := h
  rw [hb.kept id key]
  cases hk : keptIdx rt.l id key with
  | none =>
    rw [hk] at h1
    exact ⟨none, 0, h1, ⟨none, 0, rfl, by simp [noVal], by simp [noVal], fun h => absurd rfl h⟩, h2⟩
  | some i =>
    rw [hk] at h1
    obtain ⟨hi, _, _⟩ := keptIdx_lt hk
    simp only [Option.bind_some, List.getElem?_eq_getElem hi, Option.map_some, Option.getD_some] at h1 ⊢
    have hc := hr.cont rt.l[i] (List.getElem_mem hi)
    have hc2 := (hc.below h2).keep (S' := fun _ => True) (fun _ _ => trivial) (fun _ _ _ => rfl)
    obtain ⟨a, c, hsl, _⟩ := hc
    rw [hsl] at h1 hc2
    exact ⟨a, c, by rw [if_neg (by simp)]; exact h1, hc2, h2⟩

section
variable {w0 : World} {S K V L M : Nat} {role r2 : Nat → Role} {vk vd : Value} {ib : Int → Option Nat} {sl : Int → ByteArray → Value} {n : Nat} {vL vK vN vD : Value} {st : StT} {rt : RefT} {wr w' : World}
set_option maxHeartbeats 8000000 in
set_option maxRecDepth 100000 in
theorem ask_get (i : Nat) (h : Duo w0 S K V L M role r2 vk vd ib sl n vL vK vN vD st rt wr) (hn : n ≤ 3 * i) (hb : Both st rt) (hp : PathsOK st.dirs) (o : OpT) {So : Nat → Prop} {vo : Value} (ho : OpV w0 So o vo) (la : Option Addr) (ln lc : Nat) (hk : o.kind = 2) :
    Calls Tryz.prog 8 #[.pointer (some ⟨S, 0, none⟩), .pointer (some ⟨M, 0, none⟩), opAgg o (.slice la ln lc)] wr (AskPost w0 S K V L M i) := by
  obtain ⟨W1, hW1⟩ : ∃ W1, wr.alloc (.cells #[.int .i64 o.kind, .int .i64 o.id, .string o.key, .int .i64 o.v.kind, .int .i64 o.v.num, .string o.v.text, .slice la ln lc, .int .i64 o.how, .string o.text] 33) = W1 := ⟨_, rfl⟩
  have HX : Hid (Below wr.heap.size wr W1 ∧ BoxN W1 wr.heap.size (opCells o (.slice la ln lc)) 33) := by
    rw [← hW1]
    exact ⟨below1 _ _, opBox _ _ _⟩
  have HD := Lib.hid (h.up HX.out.1)
  have HFR : Hid (∀ b, wr.heap.size ≤ b → role b = .free ∧ r2 b = .free ∧ w0.heap.size ≤ b) := fun b hb => ⟨h.store.hi.free hb, h.ref.hi.free hb, Nat.le_trans h.below.size hb⟩
  obtain ⟨u, hu⟩ : ∃ u, (st.val o.id o.key).getD noVal = u := ⟨_, rfl⟩
  obtain ⟨er, her⟩ : ∃ er : Int, (if st.val o.id o.key = none then 84 else 0) = er := ⟨_, rfl⟩
  have H1 : Hid (Calls Tryz.prog 13 #[.pointer (some ⟨S, 0, none⟩), .int .i64 o.id, .string o.key] W1 fun e w' => ∃ a c, e = .returned (.tuple #[.agg #[.int .i64 u.kind, .int .i64 u.num, .string u.text, .slice a u.list.length c], .int .i64 er]) ∧ StrsV w' (fun _ => True) u.list (.slice a u.list.length c) ∧ OwnsC w' u.list a W1.heap.size ∧ Below W1.heap.size W1 w') :=
    (get2_c HD.out.store HD.out.below.size ho.idw ho.key).mono fun e w' h => by
      have := get_form h
      rw [hu, her] at this
      exact this
  have H2 : Hid (∀ W, Below W1.heap.size W1 W → Calls Tryz.prog 23 #[.pointer (some ⟨M, 0, none⟩), .int .i64 o.id, .string o.key] W fun e w' => ∃ a c, e = .returned (.tuple #[.agg #[.int .i64 u.kind, .int .i64 u.num, .string u.text, .slice a u.list.length c], .int .i64 er]) ∧ StrsV w' (fun _ => True) u.list (.slice a u.list.length c) ∧ Below W.heap.size W w') := fun W hw =>
    (rget_c (HD.out.up hw).ref (HD.out.up hw).below.size o.id o.key).mono fun e w' h => by
      have := rget_form hb (HD.out.up hw).ref h
      rw [hu, her] at this
      exact this
  have HC : Hid (∀ W, Below W1.heap.size W1 W → W.cell? ⟨wr.heap.size, 1, none⟩ = some (.int .i64 o.id) ∧ W.cell? ⟨wr.heap.size, 2, none⟩ = some (.string o.key)) := fun W hw => ⟨cell_tr hw (HX.out.2.cell (j := 1) rfl), cell_tr hw (HX.out.2.cell (j := 2) rfl)⟩
  have HE : Hid (∀ W, Duo w0 S K V L M role r2 vk vd ib sl n vL vK vN vD st rt W → AskPost w0 S K V L M i (.returned (.bool true)) W) := fun W hd => ⟨rfl, _, _, _, _, _, _, _, _, _, _, _, _, _, hd, by omega, hb, hp⟩
  obtain ⟨c1, c2⟩ := HC.out W1 (Below.refl _ _)
  have c0 := HX.out.2.cell (j := 0) rfl
  rw [hk] at c0
  rw [hk] at hW1
  unfold opAgg
  rw [hk]
  have q1 : (er == er) = true := by simp
  have HZ1 : Hid (wr.heap.size ≤ W1.heap.size) := HX.out.1.size
  clear h hn hb hp hk ho hu her
  obtain ⟨un, hun⟩ : ∃ un, u.list.length = un := ⟨_, rfl⟩
  rw [hun] at H1 H2
  have HUN := Lib.hid hun
  clear hun
  generalize AskPost w0 S K V L M i = Q at HE ⊢
  go_enter Tryz.func8, Tryz.ntmps8
  go_upto_region 13 with (go_at_call 13; refine H1.out.mono ?_; rintro e w2 ⟨a2, cc2, rfl, hs2, ho2, hb2⟩)
  obtain ⟨W3, hW3⟩ : ∃ W3, w2.alloc (.cells #[.int .i64 u.kind, .int .i64 u.num, .string u.text, .slice a2 un cc2] 31) = W3 := ⟨_, rfl⟩
  obtain ⟨H10, hH10⟩ : ∃ H10, w2.heap.size = H10 := ⟨_, rfl⟩
  rw [hW3, hH10]
  have HY : Hid (Below W1.heap.size W1 W3 ∧ BoxN W3 H10 [.int .i64 u.kind, .int .i64 u.num, .string u.text, .slice a2 un cc2] 31 ∧ StrsV W3 (fun _ => True) u.list (.slice a2 un cc2) ∧ OwnsC W3 u.list a2 W1.heap.size ∧ W1.heap.size ≤ H10 ∧ ∀ g, a2 = some ⟨g, 0, none⟩ → u.list ≠ [] → g ≠ H10) := by
    rw [← hW3, ← hH10]
    refine ⟨below_tr hb2 (below1 _ _), boxN_alloc _ _ _, hs2.below (below1 _ _), fun hl => ?_, hb2.size, fun g hg hl e => ?_⟩
    · obtain ⟨g, cur, h1, h2, h3, h4⟩ := ho2 hl
      exact ⟨g, cur, h1, h2, ((below1 w2 _).block g (Array.getElem?_eq_some_iff.1 h3).1).trans h3, h4⟩
    · obtain ⟨g', cur, h1, h2, h3, h4⟩ := ho2 hl
      rw [hg] at h1
      cases h1
      have := (Array.getElem?_eq_some_iff.1 h3).1
      omega
  clear hs2 ho2 hb2 hW3 hH10 c0 c1 c2
  obtain ⟨c1, c2⟩ := HC.out W3 HY.out.1
  go_upto_region 14 with (go_at_call 23; refine (H2.out W3 HY.out.1).mono ?_; rintro e w4 ⟨a4, cc4, rfl, hs4, hb4⟩)
  obtain ⟨W5, hW5⟩ : ∃ W5, w4.alloc (.cells #[.int .i64 u.kind, .int .i64 u.num, .string u.text, .slice a4 un cc4] 31) = W5 := ⟨_, rfl⟩
  obtain ⟨H12, hH12⟩ : ∃ H12, w4.heap.size = H12 := ⟨_, rfl⟩
  rw [hW5, hH12]
  have HV : Hid (Below W3.heap.size W3 W5 ∧ BoxN W5 H12 [.int .i64 u.kind, .int .i64 u.num, .string u.text, .slice a4 un cc4] 31 ∧ StrsV W5 (fun _ => True) u.list (.slice a4 un cc4)) := by
    rw [← hW5, ← hH12]
    exact ⟨below_tr hb4 (below1 _ _), boxN_alloc _ _ _, hs4.below (below1 _ _)⟩
  have HY5 := Lib.hid (HY.out.2.1.below HV.out.1)
  have HSM : Hid (Calls Tryz.prog 17 #[.agg #[.int .i64 u.kind, .int .i64 u.num, .string u.text, .slice a2 un cc2], .agg #[.int .i64 u.kind, .int .i64 u.num, .string u.text, .slice a4 un cc4]] W5 fun e w' => e = .returned (.bool true) ∧ Below W5.heap.size W5 w') :=
    (sameV_c W5 u u a2 a4 un un cc2 cc4 _ _ (HY.out.2.2.1.below HV.out.1) HV.out.2.2).mono fun e w' h => by
      refine ⟨h.1.trans ?_, h.2⟩
      simp
  clear hs4 hb4 hW5 hH12 c1 c2
  have p0 := HY5.out.cell (j := 0) rfl
  have p1 := HY5.out.cell (j := 1) rfl
  have p2 := HY5.out.cell (j := 2) rfl
  have p3 := HY5.out.cell (j := 3) rfl
  have r0 := HV.out.2.1.cell (j := 0) rfl
  have r1 := HV.out.2.1.cell (j := 1) rfl
  have r2' := HV.out.2.1.cell (j := 2) rfl
  have r3 := HV.out.2.1.cell (j := 3) rfl
  go_upto_region 15 with (go_at_call 17; refine HSM.out.mono ?_; rintro e w6 ⟨rfl, hb6⟩)
  have HB6 : Hid (Below W3.heap.size W3 w6) := below_tr HV.out.1 hb6
  have HL0 : Hid (Duo w0 S K V L M role r2 vk vd ib sl n vL vK vN vD st rt w6 ∧ BoxN w6 H10 [.int .i64 u.kind, .int .i64 u.num, .string u.text, .slice a2 un cc2] 31 ∧ OwnsC w6 u.list a2 W1.heap.size) := by
    refine ⟨HD.out.up (below_tr HY.out.1 HB6.out), HY.out.2.1.below HB6.out, fun hl => ?_⟩
    obtain ⟨g, cur, h1, h2, h3, h4⟩ := HY.out.2.2.2.1 hl
    exact ⟨g, cur, h1, h2, (HB6.out.block g (Array.getElem?_eq_some_iff.1 h3).1).trans h3, h4⟩
  have HNE : Hid (∀ g, a2 = some ⟨g, 0, none⟩ → u.list ≠ [] → g ≠ H10) := HY.out.2.2.2.2.2
  have hun2 : un ≤ 9223372036854775807 := by
    obtain ⟨_, _, e, _, h1, _⟩ := HY.out.2.2.1
    have := HUN.out
    omega
  clear p0 p1 p2 p3 r0 r1 r2' r3 hb6 HSM HY5 HY HV HB6 H1 H2 HC
  go_wp2_with fail
  go_loopw [15] (fun v15 wr => ∃ j : Nat, v15 = .int .i64 j ∧ j ≤ un ∧ Hid (Duo w0 S K V L M role r2 vk vd ib sl n vL vK vN vD st rt wr ∧ BoxN wr H10 [.int .i64 u.kind, .int .i64 u.num, .string u.text, .slice a2 un cc2] 31 ∧ OwnsC wr u.list a2 W1.heap.size)) (fun v15 _ => un - (intOf v15).toNat)
  case atStart => exact ⟨0, rfl, Nat.zero_le _, HL0⟩
  case round =>
    obtain ⟨j, rfl, hj, HI⟩ := hrel
    have p3 := HI.out.2.1.cell (j := 3) rfl
    by_cases hlt : j < un
    · have hj1 : (j : Int) < (un : Int) := by omega
      have hne : u.list ≠ [] := fun e => by have := HUN.out; rw [e] at this; simp at this; omega
      obtain ⟨g, cur, rfl, hg1, hg2, hg3⟩ := HI.out.2.2 hne
      have hcl : j < cur.size := by have := HUN.out; omega
      have x0 : wr.cell? ⟨g, j, none⟩ = some cur[j] := cell_of hg2 (by rw [Array.getElem?_eq_getElem hcl])
      have x1 : wr.frozen? ⟨g, j, none⟩ = false := frozen_of hg2
      have HNX : Hid (∀ x, Duo w0 S K V L M role r2 vk vd ib sl n vL vK vN vD st rt (wr.setCell ⟨g, j, none⟩ x) ∧ BoxN (wr.setCell ⟨g, j, none⟩ x) H10 [.int .i64 u.kind, .int .i64 u.num, .string u.text, .slice (some ⟨g, 0, none⟩) un cc2] 31 ∧ OwnsC (wr.setCell ⟨g, j, none⟩ x) u.list (some ⟨g, 0, none⟩) W1.heap.size) := fun x => by
        obtain ⟨f1, f2, f3⟩ := HFR.out g (Nat.le_trans HZ1.out hg1)
        refine ⟨HI.out.1.set_free f1 f2 f3 j x, HI.out.2.1.other (Ne.symm (HNE.out g rfl hne)) j x, fun hl => ⟨g, _, rfl, hg1, set_cells hg2 x, by simpa using hg3⟩⟩
      generalize cur[j] = cj at x0
      clear hg2 hne
      go_wp2_with fail
      go_roundw
      case rel => exact ⟨j + 1, by go_num, by omega, HNX.out _⟩
      case measure => simp [intOf]; omega
    · have hj1 : ¬ (j : Int) < (un : Int) := by omega
      have HFIN := Lib.hid (HE.out _ HI.out.1)
      go_wp2_with fail
      exact HFIN.out
end
end Go.Proofs.YtnplmembdfklcaaGreatDoor
