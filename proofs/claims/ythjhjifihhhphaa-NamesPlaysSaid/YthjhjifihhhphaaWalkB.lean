/-
  Contracts of Name, Relation and New of the program's table of names. Helper text; the conditions are those typed.
-/
import Derived.Test.YthjhjifihhhphaaWalkA
namespace Go.Proofs.Ythjhjifihhhphaa
set_option linter.unusedVariables false
set_option linter.unusedSimpArgs false
open Go.RowKit Go.Maps

theorem flat_rel (l : List (Int × Int × Int)) (i : Nat) (r : Int × Int × Int) (h : l[i]? = some r) : (l.flatMap relCells)[i * 3]? = some (.int .i64 r.1) ∧ (l.flatMap relCells)[i * 3 + 1]? = some (.int .i64 r.2.1) ∧ (l.flatMap relCells)[i * 3 + 2]? = some (.int .i64 r.2.2) := by
  induction l generalizing i with
  | nil => simp at h
  | cons x l ih =>
    cases i with
    | zero => simp at h; subst h; simp [relCells]
    | succ i =>
      have := ih i (by simpa using h)
      simp only [List.flatMap_cons]
      have e : ∀ d, d < 3 → (relCells x ++ List.flatMap relCells l)[(i + 1) * 3 + d]? = (List.flatMap relCells l)[i * 3 + d]? := by
        intro d _
        rw [List.getElem?_append_right (by simp [relCells]; omega)]
        congr 1
        simp [relCells]
        omega
      exact ⟨by rw [show (i + 1) * 3 = (i + 1) * 3 + 0 from rfl, e 0 (by omega)]; exact this.1, by rw [e 1 (by omega)]; exact this.2.1, by rw [e 2 (by omega)]; exact this.2.2⟩

theorem name_in {b : Nat} {t : Tab} {S : Nat → Prop} {w : World} (h : TabAt w b t S) (i : Int) :
    Calls Try.prog 14 #[.pointer (some ⟨b, 0, none⟩), .int .i64 i] w fun e w' => e = .returned (.tuple #[.string (t.name i).1, .int .i64 (t.name i).2]) ∧ w = w' := by
  have hk := known_in h i
  have hmany := h.ok.many
  obtain ⟨nv, lv, mi, mp, h⟩ := h
  cases hki : t.known i with
  | false =>
    have hn : t.name i = (ByteArray.empty, 22) := by simp [Tab.name, hki]
    rw [hn]
    rw [hki] at hk
    have HK := Lib.hid hk
    clear hk h hn hki
    go_enter Try.func14, Try.ntmps14
    go_wp2_with (go_at_call 19; refine HK.out.mono ?_; rintro e w' ⟨rfl, rfl⟩)
    go_ret2
    exact ⟨rfl, rfl⟩
  | true =>
    obtain ⟨h0, h1⟩ := Tab.known_iff.1 hki
    obtain ⟨k, rfl⟩ := Int.eq_ofNat_of_zero_le h0
    have hkl : k < t.names.length := by omega
    have hn : t.name k = (t.names[k], 0) := by simp [Tab.name, hki, hkl]
    rw [hn]
    rw [hki] at hk
    have HK := Lib.hid hk
    have hrow := h.nrow
    rcases hrow.2 with ⟨_, h2⟩ | ⟨g, cap, cur, rfl, _⟩
    · omega
    have c0 := cell_of_blk h.blk 0 rfl
    have ck := hrow.cellAt k (by omega)
    have ck' : w.cell? ⟨g, k, none⟩ = some (.string t.names[k]) := by rw [ck]; simp [hkl]
    clear ck hrow hk h hn hki h0
    have hlt : (k : Int) < (t.names.length : Int) := by omega
    go_enter Try.func14, Try.ntmps14
    go_wp2_with (go_at_call 19; refine HK.out.mono ?_; rintro e w' ⟨rfl, rfl⟩)
    go_ret2
    exact ⟨rfl, rfl⟩

theorem relation_in {b : Nat} {t : Tab} {S : Nat → Prop} {w : World} (h : TabAt w b t S) (i : Int) :
    Calls Try.prog 12 #[.pointer (some ⟨b, 0, none⟩), .int .i64 i] w fun e w' => e = .returned (.tuple #[.int .i64 (t.relation i).1.1, .int .i64 (t.relation i).1.2.1, .int .i64 (t.relation i).1.2.2, .int .i64 (t.relation i).2]) ∧ Chg (fun _ => False) w w' := by
  obtain ⟨nv, lv, mi, mp, h⟩ := h
  obtain ⟨a, c, rfl⟩ := row_slice h.lrow
  have c0 := cell_of_blk h.blk 2 rfl
  have hmany := h.ok.rmany
  by_cases h0 : 0 ≤ i
  · by_cases h1 : i < t.rels.length
    · obtain ⟨k, rfl⟩ := Int.eq_ofNat_of_zero_le h0
      have hkl : k < t.rels.length := by omega
      have hn : t.relation k = (t.rels[k], 0) := by simp [Tab.relation, hkl]
      rw [hn]
      have hrow := h.lrow
      rcases hrow.2 with ⟨_, h2⟩ | ⟨g, cap, cur, hv, _⟩
      · omega
      simp at hv
      obtain ⟨rfl, rfl⟩ := hv
      obtain ⟨f0, f1, f2⟩ := flat_rel t.rels k t.rels[k] (by simp)
      have k0 := hrow.cellAt (k * 3) (by omega)
      have k1 := hrow.cellAt (k * 3 + 1) (by omega)
      have k2 := hrow.cellAt (k * 3 + 2) (by omega)
      rw [f0] at k0
      rw [f1] at k1
      rw [f2] at k2
      have hg0 := (hrow.lt g rfl).2
      clear f0 f1 f2 hrow hn h h0
      go_enter Try.func12, Try.ntmps12
      go_wp2
      go_quiet (fail)
      go_wp2
      exact bodyPost_ret (v := .tuple #[.int .i64 t.rels[k].1, .int .i64 t.rels[k].2.1, .int .i64 t.rels[k].2.2, .int .i64 0]) (by simp [results, Try.results12, go_sem]) rfl ⟨rfl, ((Chg.refl _ _).alloc _).drewN _⟩
    · have hn : t.relation i = ((0, 0, 0), 22) := by simp [Tab.relation, h1]
      rw [hn]
      obtain ⟨k, rfl⟩ := Int.eq_ofNat_of_zero_le h0
      have hkl : t.rels.length ≤ k := by omega
      have hz : decide ((k : Int) < 0) = false := by simp
      clear h hn
      go_enter Try.func12, Try.ntmps12
      go_wp2
      exact bodyPost_ret (v := .tuple #[.int .i64 0, .int .i64 0, .int .i64 0, .int .i64 22]) (by simp [results, Try.results12, go_sem]) rfl ⟨rfl, Chg.refl _ _⟩
  · have hn : t.relation i = ((0, 0, 0), 22) := by simp [Tab.relation, h0]
    rw [hn]
    have hz : decide (i < 0) = true := by simp; omega
    clear h hn
    go_enter Try.func12, Try.ntmps12
    go_wp2
    exact bodyPost_ret (v := .tuple #[.int .i64 0, .int .i64 0, .int .i64 0, .int .i64 22]) (by simp [results, Try.results12, go_sem]) rfl ⟨rfl, Chg.refl _ _⟩

theorem new_in (w : World) :
    Calls Try.prog 9 #[] w fun e w' => ∃ b, e = .returned (.pointer (some ⟨b, 0, none⟩)) ∧ TabPost w (fun _ => False) b Tab.new w' := by
  have hmm := @run_makeMap Try.prog
  have hkey := keyStr (s := ⟨#[]⟩) (by decide)
  go_enter Try.func9, Try.ntmps9
  go_wp2_with (refine wpList_insert_is _ rfl _ _ _ 52 rfl 9 3 lawStr Try.underlying52 Try.underlying3 (w.heap.size + 1) 0 (fun _ => none) rfl (by simpa using MapIs.made Try.prog 9 3 (w.alloc (.cells #[.string ⟨#[]⟩] 9))) (by unfold maxLen; omega) (.string ⟨#[]⟩) 0 _ rfl rfl (by decide) hkey (idsF [⟨#[]⟩]) (by simp [idsF, pos]) (by intro u hu; unfold idsF; split <;> simp_all [pos, eq_comm]) ?_; intro w1 hm1 hg1 hs1)
  have hz : w1.heap.size = w.heap.size + 2 := by rw [hs1]; simp
  have k1 : ∀ k, k < w1.heap.size → ((w1.alloc (.map #[] 0)).alloc (.cells #[.slice (some ⟨w.heap.size, 0, none⟩) 1 1, .map (some (w.heap.size + 1)), .slice none 0 0, .map (some (w.heap.size + 1 + 1))] 56)).heap[k]? = w1.heap[k]? := by
    intro k hk
    rw [Below.heap_alloc _ _ _ (by simp; omega), Below.heap_alloc _ _ _ hk]
  have e1 : ((w1.alloc (.map #[] 0)).alloc (.cells #[.slice (some ⟨w.heap.size, 0, none⟩) 1 1, .map (some (w.heap.size + 1)), .slice none 0 0, .map (some (w.heap.size + 1 + 1))] 56)).heap.size = w.heap.size + 4 := by simp [hz]
  refine bodyPost_ret (v := .pointer (some ⟨w.heap.size + 3, 0, none⟩)) (by simp [results, Try.results9, go_sem]) rfl ⟨w.heap.size + 3, rfl, fun k => w.heap.size ≤ k ∧ k < w.heap.size + 4, ⟨.slice (some ⟨w.heap.size, 0, none⟩) 1 1, .slice none 0 0, w.heap.size + 1, w.heap.size + 2, ⟨?_, ?_, ?_, ?_, ?_, Tab.new_ok, by omega, ?_, ?_, by omega, by omega, ?_, ?_, ?_, by omega, by omega, ?_, ?_, ?_, ?_, by omega, fun k hk => by rw [e1]; exact hk.2⟩⟩, ?_, fun k hk => .inr hk.1⟩
  · have := heap_alloc_new (w1.alloc (.map #[] 0)) (.cells #[.slice (some ⟨w.heap.size, 0, none⟩) 1 1, .map (some (w.heap.size + 1)), .slice none 0 0, .map (some (w.heap.size + 1 + 1))] 56)
    rw [show (w1.alloc (.map #[] 0)).heap.size = w.heap.size + 3 by simp [hz]] at this
    exact this
  · refine ⟨by simp [Tab.new], .inr ⟨w.heap.size, 1, #[.string ⟨#[]⟩], rfl, Nat.zero_le _, ?_, by simp [Tab.new], by unfold maxLen; omega, by simp, by simp [Tab.new]; rfl⟩⟩
    rw [k1 _ (by omega), hg1.block _ (by simp; omega) (by simp), Below.heap_alloc _ _ _ (by simp)]
    exact heap_alloc_new w _
  · exact World.ownsRow_nil _ _ _ _
  · exact (hm1.block (k1 _ hm1.lt)).mono (by simp [Tab.new])
  · have h := (MapIs.made Try.prog 59 3 w1)
    rw [hz] at h
    refine ((h.block ?_).mono (Nat.zero_le _)).congr fun u => ?_
    · exact Below.heap_alloc _ _ _ (by simp [hz])
    · unfold relF
      split
      · split <;> simp [Tab.new, pos]
      · rfl
  · intro k hk; simp [Value.ownBlock] at hk; omega
  · intro k hk; simp [Value.ownBlock] at hk
  · intro k hk; simp [Value.ownBlock] at hk; omega
  · intro k hk; simp [Value.ownBlock] at hk
  · intro k hk; simp [Value.ownBlock]
  · intro k hk; simp [Value.ownBlock] at hk; omega
  · intro k hk; simp [Value.ownBlock] at hk; omega
  · intro k hk; simp [Value.ownBlock] at hk
  · intro k hk; simp [Value.ownBlock] at hk
  · exact ((((Chg.refl _ _).alloc _).alloc _).grown hg1 (by intro k hk h2; cases hk; omega)).alloc _ |>.alloc _
end Go.Proofs.Ythjhjifihhhphaa
