/-
  dep.Check: the contract. Helper text; the conditions are those typed.
-/
import Derived.Test.YtgeimldijagkkaaAllB
namespace Go.Proofs.Ytgeimldijagkkaa
set_option linter.unusedVariables false
set_option linter.unusedSimpArgs false
open Go.RowKit Go.Maps

theorem upto_congr {f g : Nat → Nat} : ∀ {n : Nat}, (∀ i, i < n → f i = g i) → upto f n = upto g n
  | 0, _ => rfl
  | n + 1, h => by rw [upto_succ, upto_succ, upto_congr fun i hi => h i (by omega), h n (by omega)]

theorem nall_form : ∀ (d : DepT), formB d = true → nall d = nparts d := by
  intro d
  induction d with
  | mk k nm op ev n args ih =>
    intro h
    by_cases hk : k = 1
    · subst hk
      unfold formB at h
      rw [if_pos rfl] at h
      have hn : n = 0 := by
        simp only [Bool.and_eq_true, decide_eq_true_eq] at h
        exact h.1.2
      subst hn
      rfl
    · rcases wrong_form (nm := nm) (op := op) (ev := ev) (args := args) hk with ⟨_, h2⟩ | ⟨_, _, _, _, _, _, _, h2⟩
      · rw [h2] at h; cases h
      · rw [h2] at h
        unfold nall nparts
        rw [if_neg hk, if_neg hk, Nat.zero_add]
        refine upto_congr fun i hi => ?_
        rw [dif_pos hi, dif_pos hi]
        refine ih ⟨i, hi⟩ ?_
        have := List.all_eq_true.1 h ⟨i, hi⟩ (List.mem_finRange _)
        exact (Bool.and_eq_true_iff.1 this).2

set_option maxHeartbeats 1000000 in
/-- dep.Check. -/
theorem depCheck_c (d : DepT) (cs : List Value) (S : Nat → Prop) (w : World) (h : DepC w S d cs) (hS : ∀ b, S b → b < w.heap.size) :
    Calls Try.prog 58 #[.agg cs.toArray] w fun e w' => e = .returned (.int .i64 (depCheck d)) ∧ Below w.heap.size w w' := by
  have hF := form_c d cs S
  have hA := all_c d cs S
  have hN := nall_form d
  obtain ⟨fB, hfB⟩ : ∃ fB, formB d = fB := ⟨_, rfl⟩
  obtain ⟨N, hNN⟩ : ∃ N : Int, wrap64 (nparts d) = N := ⟨_, rfl⟩
  have hD : Hid (depCheck d = if fB = false then 50 else if 16 < N then 51 else 0) := by rw [← hfB, ← hNN]; unfold depCheck wrap64; exact rfl
  rw [hfB] at hF hN
  have HF := Lib.hid hF
  have HA := Lib.hid hA
  have HN := Lib.hid hN
  have HNN := Lib.hid hNN
  have HH := Lib.hid h
  have HS := Lib.hid hS
  clear hF hA hN hNN hS hfB
  cases d with
  | mk k nm op ev n args =>
    obtain ⟨a, c, rfl, _⟩ := h
    obtain ⟨w1, e1⟩ : ∃ w1, w.alloc (.cells #[.int .i64 k, .string nm, .int .i64 op, .string ev, .slice a n c] 85) = w1 := ⟨_, rfl⟩
    have HB1 : Hid (Below w.heap.size w w1 ∧ Box5 w1 w.heap.size k nm op ev (.slice a n c)) := by
      rw [← e1]
      exact ⟨below1 _ _, .of (alloc_at _ _)⟩
    have p0 := HB1.out.2.c0
    have p1 := HB1.out.2.c1
    have p2 := HB1.out.2.c2
    have p3 := HB1.out.2.c3
    have p4 := HB1.out.2.c4
    go_enter Try.func58, Try.ntmps58
    go_wp2_with fail
    refine (HF.out w1 (HH.out.below HB1.out.1)).mono ?_
    rintro e w2 ⟨rfl, hb2⟩
    have HB2 : Hid (Below w.heap.size w w2 ∧ Box5 w2 w.heap.size k nm op ev (.slice a n c)) := ⟨below_tr HB1.out.1 hb2, HB1.out.2.below hb2⟩
    clear hb2 p0 p1 p2 p3 p4
    have p0 := HB2.out.2.c0
    have p1 := HB2.out.2.c1
    have p2 := HB2.out.2.c2
    have p3 := HB2.out.2.c3
    have p4 := HB2.out.2.c4
    cases fB with
    | false =>
      go_wp2_with fail
      go_ret
      exact ⟨by rw [hD.out]; rfl, HB2.out.1⟩
    | true =>
      have HB3 : Hid (Below w.heap.size w (w2.alloc (.cells #[.int .i64 0] 3)) ∧ Box5 (w2.alloc (.cells #[.int .i64 0] 3)) w.heap.size k nm op ev (.slice a n c) ∧ (w2.alloc (.cells #[.int .i64 0] 3)).heap[w2.heap.size]? = some (.cells #[.int .i64 0] 3 (0, 0))) :=
        ⟨below_tr HB2.out.1 (below1 _ _), HB2.out.2.below (below1 _ _), alloc_at _ _⟩
      have hge : Hid (w.heap.size ≤ w2.heap.size) := HB2.out.1.size
      clear p0 p1 p2 p3 p4
      have p0 := HB3.out.2.1.c0
      have p1 := HB3.out.2.1.c1
      have p2 := HB3.out.2.1.c2
      have p3 := HB3.out.2.1.c3
      have p4 := HB3.out.2.1.c4
      go_wp2_with fail
      refine (HA.out (w2.alloc (.cells #[.int .i64 0] 3)) w2.heap.size 0 (HH.out.below HB3.out.1) (fun hs => Nat.lt_irrefl _ (Nat.lt_of_lt_of_le (HS.out _ hs) hge.out)) (by rw [show wrap64 0 = 0 by unfold wrap64; omega]; exact HB3.out.2.2)).mono ?_
      rintro e w4 ⟨rfl, ht⟩
      have hb4 : Hid (Below w.heap.size w w4) := by
        have h3 := HB3.out.1
        refine ⟨ht.os.trans h3.os, ht.tape.trans h3.tape, ht.output.trans h3.output, Nat.le_trans h3.size ht.size, fun j hj => ?_⟩
        have hg := hge.out
        rw [ht.block j (Nat.lt_of_lt_of_le hj h3.size) (by omega)]
        exact h3.block j hj
      have hc : Hid (w4.cell? ⟨w2.heap.size, 0, none⟩ = some (.int .i64 N)) := by
        have := ht.at_
        rw [Int.zero_add, HN.out trivial, HNN.out] at this
        unfold World.cell?
        simp only [this]
        rfl
      clear ht p0 p1 p2 p3 p4
      have pc := hc.out
      by_cases h16 : 16 < N
      · go_wp2_with fail
        go_ret
        exact ⟨by rw [hD.out, if_neg (by simp), if_pos h16]; rfl, hb4.out⟩
      · go_wp2_with fail
        go_ret
        exact ⟨by rw [hD.out, if_neg (by simp), if_neg (by omega)]; rfl, hb4.out⟩
end Go.Proofs.Ytgeimldijagkkaa
