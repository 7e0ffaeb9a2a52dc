/-
  Contracts of Name, Relation and New of the program's table of names. Helper text; the conditions are those typed.
-/
import Derived.Test.YthjhjifihhhphaaDoorWalkA
namespace Go.Proofs.YthjhjifihhhphaaDoor
set_option linter.unusedVariables false
set_option linter.unusedSimpArgs false
open Go.RowKit Go.Maps

theorem new_in (w : World) :
    Calls Tryd.prog 5 #[] w fun e w' => ∃ b, e = .returned (.pointer (some ⟨b, 0, none⟩)) ∧ TabPost w (fun _ => False) b Tab.new w' := by
  have hmm := @run_makeMap Tryd.prog
  have hkey := keyStr (s := ⟨#[]⟩) (by decide)
  go_enter Tryd.func5, Tryd.ntmps5
  go_wp2_with (refine wpList_insert_is _ rfl _ _ _ 32 rfl 9 3 lawStr Tryd.underlying32 Tryd.underlying3 (w.heap.size + 1) 0 (fun _ => none) rfl (by simpa using MapIs.made Tryd.prog 9 3 (w.alloc (.cells #[.string ⟨#[]⟩] 9))) (by unfold maxLen; omega) (.string ⟨#[]⟩) 0 _ rfl rfl (by decide) hkey (idsF [⟨#[]⟩]) (by simp [idsF, pos]) (by intro u hu; unfold idsF; split <;> simp_all [pos, eq_comm]) ?_; intro w1 hm1 hg1 hs1)
  have hz : w1.heap.size = w.heap.size + 2 := by rw [hs1]; simp
  have k1 : ∀ k, k < w1.heap.size → ((w1.alloc (.map #[] 0)).alloc (.cells #[.slice (some ⟨w.heap.size, 0, none⟩) 1 1, .map (some (w.heap.size + 1)), .slice none 0 0, .map (some (w.heap.size + 1 + 1))] 36)).heap[k]? = w1.heap[k]? := by
    intro k hk
    rw [Below.heap_alloc _ _ _ (by simp; omega), Below.heap_alloc _ _ _ hk]
  have e1 : ((w1.alloc (.map #[] 0)).alloc (.cells #[.slice (some ⟨w.heap.size, 0, none⟩) 1 1, .map (some (w.heap.size + 1)), .slice none 0 0, .map (some (w.heap.size + 1 + 1))] 36)).heap.size = w.heap.size + 4 := by simp [hz]
  refine bodyPost_ret (v := .pointer (some ⟨w.heap.size + 3, 0, none⟩)) (by simp [results, Tryd.results5, go_sem]) rfl ⟨w.heap.size + 3, rfl, fun k => w.heap.size ≤ k ∧ k < w.heap.size + 4, ⟨.slice (some ⟨w.heap.size, 0, none⟩) 1 1, .slice none 0 0, w.heap.size + 1, w.heap.size + 2, ⟨?_, ?_, ?_, ?_, ?_, Tab.new_ok, by omega, ?_, ?_, by omega, by omega, ?_, ?_, ?_, by omega, by omega, ?_, ?_, ?_, ?_, by omega, fun k hk => by rw [e1]; exact hk.2⟩⟩, ?_, fun k hk => .inr hk.1⟩
  · have := heap_alloc_new (w1.alloc (.map #[] 0)) (.cells #[.slice (some ⟨w.heap.size, 0, none⟩) 1 1, .map (some (w.heap.size + 1)), .slice none 0 0, .map (some (w.heap.size + 1 + 1))] 36)
    rw [show (w1.alloc (.map #[] 0)).heap.size = w.heap.size + 3 by simp [hz]] at this
    exact this
  · refine ⟨by simp [Tab.new], .inr ⟨w.heap.size, 1, #[.string ⟨#[]⟩], rfl, Nat.zero_le _, ?_, by simp [Tab.new], by unfold maxLen; omega, by simp, by simp [Tab.new]; rfl⟩⟩
    rw [k1 _ (by omega), hg1.block _ (by simp; omega) (by simp), Below.heap_alloc _ _ _ (by simp)]
    exact heap_alloc_new w _
  · exact World.ownsRow_nil _ _ _ _
  · exact (hm1.block (k1 _ hm1.lt)).mono (by simp [Tab.new])
  · have h := (MapIs.made Tryd.prog 40 3 w1)
    rw [hz] at h
    refine ((h.block ?_).mono (Nat.zero_le _)).congr fun u => ?_
    · exact Below.heap_alloc _ _ _ (by simp [hz])
    · unfold relF
      split
      · split <;> simp [Tab.new, pos]
      · rfl
  · intro k hk; simp [Value.ownBlock] at hk; omega
  · intro k hk; simp [Value.ownBlock] at hk
  · intro k hk; simp [Value.ownBlock] at hk; omega
  · intro k hk; simp [Value.ownBlock] at hk
  · intro k hk; simp [Value.ownBlock]
  · intro k hk; simp [Value.ownBlock] at hk; omega
  · intro k hk; simp [Value.ownBlock] at hk; omega
  · intro k hk; simp [Value.ownBlock] at hk
  · intro k hk; simp [Value.ownBlock] at hk
  · exact ((((Chg.refl _ _).alloc _).alloc _).grown hg1 (by intro k hk h2; cases hk; omega)).alloc _ |>.alloc _
end Go.Proofs.YthjhjifihhhphaaDoor
