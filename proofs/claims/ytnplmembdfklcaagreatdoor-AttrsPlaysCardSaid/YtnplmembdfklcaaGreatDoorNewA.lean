/-
  New, Path: the walks. Helper text; the conditions are those typed.
-/
import Derived.Test.YtnplmembdfklcaaGreatDoorDirB
namespace Go.Proofs.YtnplmembdfklcaaGreatDoor
set_option linter.unusedVariables false
set_option linter.unusedSimpArgs false
open Go.RowKit Go.Maps

/-- Nothing but the root. -/
def st0 : StT := ⟨[], fun _ => none, fun _ _ => none, [([47], 0)]⟩
theorem MapAt.of_none {P : Program} {k : TypeId} {w : World} {b n : Nat} {f : Value → Option Value} (h : MapAt P k w b n f) (g : Value → Option Value) (hg : ∀ v, g v = f v) : MapAt P k w b n g := h.congr hg
set_option maxHeartbeats 1000000 in
set_option maxRecDepth 100000 in
/-- New. -/
theorem new_c (B : Nat) (w : World) (hB : B ≤ w.heap.size) :
    Calls Tryz.prog 6 #[] w fun e w' => (∃ S, e = .returned (.pointer (some ⟨S, 0, none⟩)) ∧ ∃ role K V L vd, StoreIn w' B role S K V L (.slice none 0 0) vd (fun _ => none) (fun _ _ => .slice none 0 0) 0 st0 ∧ (∀ b, b < w.heap.size → role b = .free)) ∧ Below w.heap.size w w' := by
  have hmm := @run_makeMap Tryz.prog
  obtain ⟨W0, e0⟩ : ∃ W0, ((((w.alloc (.map #[] 0)).alloc (.map #[] 0)).alloc (.cells #[.string ⟨#[47]⟩, .int .i64 0] 60)).alloc (.map #[] 0)) = W0 := ⟨_, rfl⟩
  have HB0 : Hid (Below w.heap.size w W0 ∧ W0.heap.size = w.heap.size + 4 ∧ W0.heap[w.heap.size]? = some (.map #[] 0) ∧ W0.heap[w.heap.size + 1]? = some (.map #[] 0) ∧ W0.heap[w.heap.size + 2]? = some (.cells #[.string ⟨#[47]⟩, .int .i64 0] 60 (0, 0)) ∧ MapAt Tryz.prog 9 W0 (w.heap.size + 3) 0 (fun _ => none)) := by
    subst e0
    have s1 : (w.alloc (.map #[] 0)).heap.size = w.heap.size + 1 := by simp
    have s2 : ((w.alloc (.map #[] 0)).alloc (.map #[] 0)).heap.size = w.heap.size + 2 := by simp
    have s3 : (((w.alloc (.map #[] 0)).alloc (.map #[] 0)).alloc (.cells #[.string ⟨#[47]⟩, .int .i64 0] 60)).heap.size = w.heap.size + 3 := by simp
    have b1 := below1 (w.alloc (.map #[] 0)) (.map #[] 0)
    have b2 := below1 ((w.alloc (.map #[] 0)).alloc (.map #[] 0)) (.cells #[.string ⟨#[47]⟩, .int .i64 0] 60)
    have b3 := below1 (((w.alloc (.map #[] 0)).alloc (.map #[] 0)).alloc (.cells #[.string ⟨#[47]⟩, .int .i64 0] 60)) (.map #[] 0)
    refine ⟨below_tr (below_tr (below_tr (below1 _ _) b1) b2) b3, by simp, ?_, ?_, ?_, ?_⟩
    · rw [b3.block _ (by omega), b2.block _ (by omega), b1.block _ (by omega)]
      exact alloc_at _ _
    · rw [b3.block _ (by omega), b2.block _ (by omega), ← s1]
      exact alloc_at _ _
    · rw [b3.block _ (by omega), ← s2]
      exact alloc_at _ _
    · rw [← s3]
      exact MapAt.made _ _ _
  obtain ⟨W1, hrun, hm1, hg1, hz1⟩ := HB0.out.2.2.2.2.2.run_store (key := .string ⟨#[47]⟩) (val := .int .i64 0) keyed9 Tryz.underlying57 (by decide) (key9 (by decide)) (placesF [([47], 0)])
    (by kernel_rfl) (fun u hu => by
      cases u with
      | string s =>
        show (idxD [([47], 0)] (bs s)).map _ = none
        unfold idxD
        simp only [List.findIdx?_cons, List.findIdx?_nil]
        rw [if_neg]
        · rfl
        · simp only [decide_eq_true_eq]
          intro e
          exact hu (by rw [show s = ⟨#[47]⟩ from bs_inj (by rw [← e]; rfl)])
      | _ => rfl)
  have HP : Hid (∃ role K V L vd, StoreIn (W1.alloc (.cells #[.slice none 0 0, .map (some w.heap.size), .map (some (w.heap.size + 1)), .slice (some ⟨w.heap.size + 2, 0, none⟩) 1 1, .map (some (w.heap.size + 3))] 63)) B role (w.heap.size + 4) K V L (.slice none 0 0) vd (fun _ => none) (fun _ _ => .slice none 0 0) 0 st0 ∧ (∀ b, b < w.heap.size → role b = .free)) := by
    have hsz : W1.heap.size = w.heap.size + 4 := by rw [hz1, HB0.out.2.1]
    have ba := below1 W1 (.cells #[.slice none 0 0, .map (some w.heap.size), .map (some (w.heap.size + 1)), .slice (some ⟨w.heap.size + 2, 0, none⟩) 1 1, .map (some (w.heap.size + 3))] 63)
    have hk : ∀ b, b < w.heap.size + 4 → b ≠ w.heap.size + 3 → (W1.alloc (.cells #[.slice none 0 0, .map (some w.heap.size), .map (some (w.heap.size + 1)), .slice (some ⟨w.heap.size + 2, 0, none⟩) 1 1, .map (some (w.heap.size + 3))] 63)).heap[b]? = W0.heap[b]? := fun b hb hne => by
      rw [ba.block b (by omega), hg1.block b (by rw [HB0.out.2.1]; exact hb) (fun e => hne (Option.some.inj e))]
    refine ⟨fun b => if b = w.heap.size then .kinds else if b = w.heap.size + 1 then .values else if b = w.heap.size + 2 then .dirs else if b = w.heap.size + 3 then .places else if b = w.heap.size + 4 then .box else .free, w.heap.size, w.heap.size + 1, w.heap.size + 3, .slice (some ⟨w.heap.size + 2, 0, none⟩) 1 1, ?_, fun b hb => by
      simp only [show ¬ b = w.heap.size by omega, show ¬ b = w.heap.size + 1 by omega, show ¬ b = w.heap.size + 2 by omega, show ¬ b = w.heap.size + 3 by omega, show ¬ b = w.heap.size + 4 by omega, if_false]⟩
    refine ⟨?_, World.ownsRow_nil _ _ _ _, ?_, ?_, fun id b h => (by cases h), fun _ _ _ => rfl, fun id key v h => (by cases h), ?_, ?_, ?_, ?_, ?_, ?_, fun g h => (by cases h), fun g h => (by cases h; simp), fun id b h => (by cases h), fun b hb => ?_, fun b hb => ?_⟩
    · show BoxN _ (w.heap.size + 4) _ 63
      rw [← hsz]
      exact boxN_alloc W1 [.slice none 0 0, .map (some w.heap.size), .map (some (w.heap.size + 1)), .slice (some ⟨w.heap.size + 2, 0, none⟩) 1 1, .map (some (w.heap.size + 3))] 63
    · refine (MapAt.made Tryz.prog 9 w).block (w' := _) ?_ |>.congr fun u => ?_
      · rw [hk _ (by omega) (by omega), HB0.out.2.2.1]
        exact (alloc_at _ _).symm
      · cases u <;> rfl
    · have hm : MapAt Tryz.prog 3 (w.alloc (.map #[] 0)) w.heap.size 0 (fun _ => none) := MapAt.made _ _ _
      obtain ⟨D, ⟨es, clock, h1, h2⟩, hf⟩ := hm
      rw [alloc_at] at h1
      refine ⟨D, ⟨es, clock, ?_, h2⟩, fun v kl hv => ?_⟩
      · rw [hk _ (by omega) (by omega), HB0.out.2.2.2.1]
        exact h1
      · obtain ⟨h3, h4⟩ := hf v kl hv
        have : valuesF (fun _ => none) v = none := by
          unfold valuesF
          split <;> rfl
        rw [this]
        exact ⟨h3, fun x h => by cases h⟩
    · refine ⟨rfl, .inr ⟨w.heap.size + 2, 1, #[.string ⟨#[47]⟩, .int .i64 0], rfl, by omega, ?_, Nat.le_refl _, by decide, rfl, rfl⟩⟩
      rw [hk _ (by omega) (by omega)]
      exact HB0.out.2.2.2.2.1
    · exact (hm1.block (ba.block _ (by omega))).mono (by decide)
    · simp
    · simp
    · simp
    · simp
    · by_cases h1 : w.heap.size ≤ b
      · omega
      · exact absurd (by simp only [show ¬ b = w.heap.size by omega, show ¬ b = w.heap.size + 1 by omega, show ¬ b = w.heap.size + 2 by omega, show ¬ b = w.heap.size + 3 by omega, show ¬ b = w.heap.size + 4 by omega, if_false]) hb
    · by_cases h1 : b < w.heap.size + 5
      · simp [hsz]; omega
      · exact absurd (by simp only [show ¬ b = w.heap.size by omega, show ¬ b = w.heap.size + 1 by omega, show ¬ b = w.heap.size + 2 by omega, show ¬ b = w.heap.size + 3 by omega, show ¬ b = w.heap.size + 4 by omega, if_false]) hb
  have HB : Hid (Below w.heap.size w (W1.alloc (.cells #[.slice none 0 0, .map (some w.heap.size), .map (some (w.heap.size + 1)), .slice (some ⟨w.heap.size + 2, 0, none⟩) 1 1, .map (some (w.heap.size + 3))] 63))) := by
    have h1 : Below w.heap.size w W1 := ⟨hg1.os.trans HB0.out.1.os, hg1.tape.trans HB0.out.1.tape, hg1.output.trans HB0.out.1.output, Nat.le_trans HB0.out.1.size hg1.size, fun b hb => by
      rw [hg1.block b (Nat.lt_of_lt_of_le hb HB0.out.1.size) (fun e => by have := Option.some.inj e; omega), HB0.out.1.block b hb]⟩
    exact below_tr h1 (below1 _ _)
  have hz : Hid (W1.heap.size = w.heap.size + 4) := by rw [Hid, hz1, HB0.out.2.1]
  clear hm1 hg1 hz1 HB0
  have hrun' : (Instr.mapUpdate 57 (.map (some (w.heap.size + 1 + 1 + 1))) (.string ⟨#[47]⟩) (.int .i64 0)).run Tryz.prog W0 = .ok () W1 := hrun
  clear hrun
  go_enter Tryz.func6, Tryz.ntmps6
  go_wp2_with fail
  go_ret
  rw [hz.out]
  obtain ⟨role, K, V, L, vd, h1, h2⟩ := HP.out
  exact ⟨⟨_, rfl, role, K, V, L, vd, h1, h2⟩, HB.out⟩
section
variable {w w' : World} {B : Nat} {role role' : Nat → Role} {S K V L : Nat} {vk vd : Value} {ib : Int → Option Nat} {sl : Int → ByteArray → Value} {n : Nat} {st : StT}
theorem flat_at (ds : List (List UInt8 × Nat)) : ∀ (i : Nat) (h : i < ds.length), (ds.flatMap dirCells)[i * 2]? = some (.string (mkB ds[i].1)) ∧ (ds.flatMap dirCells)[i * 2 + 1]? = some (.int .i64 (ds[i].2 : Int)) := by
  induction ds with
  | nil => intro i h; cases h
  | cons d ds ih =>
    intro i h
    match i, h with
    | 0, _ => exact ⟨rfl, rfl⟩
    | i + 1, h =>
      have := ih i (by simpa using h)
      rw [List.flatMap_cons]
      refine ⟨?_, ?_⟩
      · rw [List.getElem?_append_right (by show 2 ≤ _; omega), show (i + 1) * 2 - (dirCells d).length = i * 2 from by show (i + 1) * 2 - 2 = _; omega]
        exact this.1
      · rw [List.getElem?_append_right (by show 2 ≤ _; omega), show (i + 1) * 2 + 1 - (dirCells d).length = i * 2 + 1 from by show (i + 1) * 2 + 1 - 2 = _; omega]
        exact this.2
/-- What Path answers. -/
def pathAns (ds : List (List UInt8 × Nat)) (k : Int) : Value := match if 0 ≤ k then ds[k.toNat]? else none with
  | some d => .tuple #[.string (mkB d.1), .int .i64 (d.2 : Int), .int .i64 0]
  | none => .tuple #[.string ⟨#[]⟩, .int .i64 0, .int .i64 84]
set_option maxHeartbeats 1000000 in
set_option maxRecDepth 100000 in
theorem path_c (h : StoreIn w B role S K V L vk vd ib sl n st) (hd : st.dirs.length ≤ 3000) (k : Int) :
    Calls Tryz.prog 16 #[.pointer (some ⟨S, 0, none⟩), .int .i64 k] w fun e w' => e = .returned (pathAns st.dirs k) ∧ Below w.heap.size w w' := by
  have HB1 : Hid (∀ q, Below w.heap.size w (w.drewN q)) := fun q => below_dr (Below.refl _ _) q
  by_cases h0 : k < 0
  · have he : pathAns st.dirs k = .tuple #[.string ⟨#[]⟩, .int .i64 0, .int .i64 84] := by
      unfold pathAns
      rw [if_neg (by omega)]
    rw [he]
    clear h he
    go_enter Tryz.func16, Tryz.ntmps16
    go_wp2_with fail
    refine bodyPost_ret (v := .tuple #[.string ⟨#[]⟩, .int .i64 0, .int .i64 84]) (by simp [results, Tryz.results16, go_sem]) rfl ?_
    exact ⟨rfl, Below.refl _ _⟩
  obtain ⟨a, c, hvd⟩ := h.dirs_slice
  have hrow := h.dirs
  have b3 := h.box.cell (j := 3) rfl
  subst hvd
  obtain ⟨i, rfl⟩ : ∃ i : Nat, k = i := ⟨k.toNat, by omega⟩
  obtain ⟨D, hD⟩ : ∃ D, st.dirs.length = D := ⟨_, rfl⟩
  by_cases hlt : i < st.dirs.length
  · have he : pathAns st.dirs (i : Int) = .tuple #[.string (mkB st.dirs[i].1), .int .i64 (st.dirs[i].2 : Int), .int .i64 0] := by
      unfold pathAns
      rw [if_pos (by omega)]
      simp [hlt]
    obtain ⟨c0, c1⟩ := flat_at st.dirs i hlt
    obtain ⟨g, cap, hf, _⟩ := (ownsRow_form hrow).resolve_left (fun h => by have := h.2; omega)
    cases hf
    replace c0 := ownsRow_cell hrow c0
    replace c1 := ownsRow_cell hrow c1
    rw [he]
    generalize (st.dirs[i]'hlt) = d at c0 c1 he ⊢
    rw [hD] at b3 hlt hd
    replace hrow := Lib.hid hrow
    replace hD := Lib.hid hD
    clear h he
    have hi1 : (i : Int) < (D : Int) := by omega
    go_enter Tryz.func16, Tryz.ntmps16
    go_upto_region 5 with fail
    refine wp_quiet_all (by kernel_rfl) (by kernel_rfl) ?_
    intro wd hwd
    have b3' : wd.cell? ⟨S, 3, none⟩ = some _ := (cell_heap (by rw [hwd.out]; rfl) _).trans b3
    have c0' : wd.cell? ⟨g, i * 2, none⟩ = some _ := (cell_heap (by rw [hwd.out]; rfl) _).trans c0
    have c1' : wd.cell? ⟨g, i * 2 + 1, none⟩ = some _ := (cell_heap (by rw [hwd.out]; rfl) _).trans c1
    repeat (go_big_quiet_step (fail))
    refine wpQuiet_nil ?_
    intro w' hw'
    rw [hw', hwd.out]
    clear hw' w' b3' c0' c1' hwd wd
    go_wp2_with fail
    refine bodyPost_ret (v := .tuple #[.string (mkB d.1), .int .i64 (d.2 : Int), .int .i64 0]) (by simp [results, Tryz.results16, go_sem]) rfl ?_
    exact ⟨rfl, HB1.out 1⟩
  · have he : pathAns st.dirs (i : Int) = .tuple #[.string ⟨#[]⟩, .int .i64 0, .int .i64 84] := by
      unfold pathAns
      rw [if_pos (by omega)]
      simp [Nat.not_lt.1 hlt]
    rw [he]
    rw [hD] at b3 hlt hd
    replace hrow := Lib.hid hrow
    replace hD := Lib.hid hD
    have hi1 : ¬ (i : Int) < (D : Int) := by omega
    clear h he
    go_enter Tryz.func16, Tryz.ntmps16
    go_wp2_with fail
    refine bodyPost_ret (v := .tuple #[.string ⟨#[]⟩, .int .i64 0, .int .i64 84]) (by simp [results, Tryz.results16, go_sem]) rfl ?_
    exact ⟨rfl, Below.refl _ _⟩
end
end Go.Proofs.YtnplmembdfklcaaGreatDoor
