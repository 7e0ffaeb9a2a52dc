/-
  The names of a dependency, counted: the contract. Helper text; the conditions are those typed.
  The names of a dependency, counted: the walk. Helper text; the conditions are those typed.
  dep.Check: the contract. Helper text; the conditions are those typed.
-/
import Derived.Test.YtjcefgjgjhdbpaaGreatDoorFormC
namespace Go.Proofs.YtjcefgjgjhdbpaaGreatDoor
set_option linter.unusedVariables false
set_option linter.unusedSimpArgs false
open Go.RowKit Go.Maps

/-- Only the counter's cell is another, of what was there. -/
structure Ticked (b : Nat) (z : Int) (w w' : World) : Prop where
  os : w'.os = w.os
  tape : w'.tape = w.tape
  output : w'.output = w.output
  size : w.heap.size ≤ w'.heap.size
  block : ∀ k, k < w.heap.size → k ≠ b → w'.heap[k]? = w.heap[k]?
  at_ : w'.heap[b]? = some (.cells #[.int .i64 z] 3 (0, 0))

theorem tick_c (s : ByteArray) (b : Nat) (z : Int) (W : World) (h : W.heap[b]? = some (.cells #[.int .i64 z] 3 (0, 0))) :
    Calls Tryz.prog 110 #[.string s, .pointer (some ⟨b, 0, none⟩)] W fun e w' => e = .returned (.tuple #[]) ∧ Ticked b (wrap64 (z + 1)) W w' := by
  have p0 : W.cell? ⟨b, 0, none⟩ = some (.int .i64 z) := by unfold World.cell?; simp only [h]; rfl
  have f0 : W.frozen? ⟨b, 0, none⟩ = false := by unfold World.frozen?; simp only [h]; rfl
  have H := Lib.hid h
  clear h
  go_enter Tryz.func110, Tryz.ntmps110
  go_wp2_with fail
  refine bodyPost_end (v := .tuple #[]) (by simp [results, Tryz.results110, go_sem]) rfl ⟨rfl, rfl, rfl, rfl, ?_, ?_, ?_⟩
  · simp
  · intro k hk hne
    unfold World.setCell
    simp [Array.getElem?_modify, Ne.symm hne]
  · have h := H.out
    unfold World.setCell
    simp [Array.getElem?_modify, h]
end Go.Proofs.YtjcefgjgjhdbpaaGreatDoor
namespace Go.Proofs.YtjcefgjgjhdbpaaGreatDoor
set_option linter.unusedVariables false
set_option linter.unusedSimpArgs false
open Go.RowKit Go.Maps

theorem Ticked.trans {b : Nat} {z z' : Int} {u v w : World} (h : Ticked b z u v) (k : Ticked b z' v w) : Ticked b z' u w :=
  ⟨k.os.trans h.os, k.tape.trans h.tape, k.output.trans h.output, Nat.le_trans h.size k.size, fun j hj hne => (k.block j (Nat.lt_of_lt_of_le hj h.size) hne).trans (h.block j hj hne), k.at_⟩
theorem Ticked.start {b : Nat} {z : Int} {w : World} (h : w.heap[b]? = some (.cells #[.int .i64 z] 3 (0, 0))) : Ticked b z w w := ⟨rfl, rfl, rfl, Nat.le_refl _, fun _ _ _ => rfl, h⟩
theorem Ticked.alloc {b : Nat} {z : Int} {w w' : World} (h : Ticked b z w w') (o : Obj) (hb : b < w.heap.size) : Ticked b z w (w'.alloc o) :=
  ⟨h.os, h.tape, h.output, Nat.le_trans h.size (by simp), fun j hj hne => by rw [Below.heap_alloc _ _ _ (Nat.lt_of_lt_of_le hj h.size)]; exact h.block j hj hne, by rw [Below.heap_alloc _ _ _ (Nat.lt_of_lt_of_le hb h.size)]; exact h.at_⟩
theorem Ticked.dr {b : Nat} {z : Int} {w w' : World} (h : Ticked b z w w') (n : Nat) : Ticked b z w (w'.drewN n) := ⟨h.os, h.tape, h.output, h.size, h.block, h.at_⟩
theorem DepC.ticked {w w' : World} {S : Nat → Prop} {d : DepT} {cs : List Value} {b : Nat} {z : Int} (h : DepC w S d cs) (hS : ¬ S b) (ht : Ticked b z w w') : DepC w' S d cs :=
  h.keep (fun _ h => h) (fun j hj hl => ht.block j hl (fun e => hS (e ▸ hj))) (fun _ _ => trivial)
theorem wrap_add (a b : Int) : wrap64 (wrap64 a + b) = wrap64 (a + b) := by unfold wrap64; omega
theorem wrap_wrap (a : Int) : wrap64 (wrap64 a) = wrap64 a := by unfold wrap64; omega
theorem Ticked.box {b : Nat} {z : Int} {w w' : World} (h : Ticked b z w w') {c : Nat} {k : Int} {nm : ByteArray} {op : Int} {ev : ByteArray} {v : Value} (hb : Box5 w c k nm op ev v) (hne : c ≠ b) : Box5 w' c k nm op ev v := hb.to (h.block c hb.lt hne)

theorem upto_succ (f : Nat → Nat) (n : Nat) : upto f (n + 1) = upto f n + f n := rfl

set_option maxHeartbeats 1000000 in
set_option maxRecDepth 100000 in
/-- dep.all, counting. -/
theorem all_c : ∀ (d : DepT) (cs : List Value) (S : Nat → Prop) (w : World) (b : Nat) (z : Int), DepC w S d cs → ¬ S b → w.heap[b]? = some (.cells #[.int .i64 (wrap64 z)] 3 (0, 0)) →
    Calls Tryz.prog 109 #[.agg cs.toArray, .func (.func 110) #[] #[.pointer (some ⟨b, 0, none⟩)]] w fun e w' => e = .returned (.tuple #[]) ∧ Ticked b (wrap64 (z + nall d)) w w' := by
  intro d
  induction d with
  | mk k nm op ev n args ih =>
    intro cs S w b z h hS hz
    obtain ⟨a, c, rfl, hw, hnm, hev, hn, hin⟩ := h
    have IH := Lib.hid ih
    have HIN := Lib.hid hin
    clear ih hin
    have hblt : b < w.heap.size := by
      rcases Nat.lt_or_ge b w.heap.size with h | h
      · exact h
      · rw [Array.getElem?_eq_none h] at hz; cases hz
    show Calls Tryz.prog 109 #[.agg #[.int .i64 k, .string nm, .int .i64 op, .string ev, .slice a n c], .func (.func 110) #[] #[.pointer (some ⟨b, 0, none⟩)]] w fun e w' => e = .returned (.tuple #[]) ∧ Ticked b (wrap64 (z + nall (.mk k nm op ev n args))) w w'
    obtain ⟨w1, e1⟩ : ∃ w1, w.alloc (.cells #[.int .i64 k, .string nm, .int .i64 op, .string ev, .slice a n c] 73) = w1 := ⟨_, rfl⟩
    have HB1 : Hid (Ticked b (wrap64 z) w w1 ∧ Box5 w1 w.heap.size k nm op ev (.slice a n c)) := by
      rw [← e1]
      exact ⟨(Ticked.start hz).alloc _ hblt, .of (alloc_at _ _)⟩
    have p0 := HB1.out.2.c0
    have p1 := HB1.out.2.c1
    have p4 := HB1.out.2.c4
    replace hz := Lib.hid hz
    go_enter Tryz.func109, Tryz.ntmps109
    obtain ⟨c0, hc0⟩ : ∃ c0 : Nat, (if k = 1 then 1 else 0) = c0 := ⟨_, rfl⟩
    obtain ⟨F, hF⟩ : ∃ F : Nat → Nat, (fun j => if h : j < n then nall (args ⟨j, h⟩) else 0) = F := ⟨_, rfl⟩
    have HALL : Hid (nall (.mk k nm op ev n args) = c0 + upto F n) := by rw [← hc0, ← hF]; rfl
    have HFI : Hid (∀ i : Fin n, F i = nall (args i)) := fun i => by rw [← hF]; simp
    clear hF
    have HC : Hid ((if k = 1 then 1 else 0) = c0) := hc0
    clear hc0
    have H : (k == 1) = true ∨ (k == 1) = false := by cases (k == 1) <;> simp
    rcases H with hk | hk
    · go_wp2_with fail
      refine (tick_c nm b (wrap64 z) w1 HB1.out.1.at_).mono ?_
      rintro e w2 ⟨rfl, ht2⟩
      have HB2 : Hid (Ticked b (wrap64 (z + c0)) w w2 ∧ Box5 w2 w.heap.size k nm op ev (.slice a n c)) := by
        have : c0 = 1 := by rw [← HC.out, if_pos (by simpa using hk)]
        subst this
        rw [wrap_add] at ht2
        exact ⟨HB1.out.1.trans ht2, ht2.box HB1.out.2 (by omega)⟩
      clear ht2 p0 p1 p4
      have p4 := HB2.out.2.c4
      go_wp2_with fail
      go_loopw [16] (fun vi wr => ∃ i : Nat, vi = .int .i64 i ∧ i ≤ n ∧ Hid (Ticked b (wrap64 (z + ((c0 + upto F i : Nat) : Int))) w wr)) (fun vi _ => n - (intOf vi).toNat)
      case atStart => exact ⟨0, rfl, Nat.zero_le _, HB2.out.1⟩
      case round =>
        obtain ⟨i, rfl, hin, HT⟩ := hrel
        by_cases hlt : i < n
        · have hi1 : (i : Int) < (n : Int) := by omega
          obtain ⟨b', off, rfl, hs, hi⟩ := HIN.out (by omega)
          obtain ⟨cs', hd, hcells⟩ := hi ⟨i, hlt⟩
          have hIH := IH.out ⟨i, hlt⟩
          have hFI := HFI.out ⟨i, hlt⟩
          obtain ⟨k', nm', op', ev', n', args', he⟩ : ∃ k' nm' op' ev' n' args', args ⟨i, hlt⟩ = .mk k' nm' op' ev' n' args' := by
            cases args ⟨i, hlt⟩ with
            | mk k' nm' op' ev' n' args' => exact ⟨k', nm', op', ev', n', args', rfl⟩
          rw [he] at hIH hFI hd
          have hd0 := hd
          obtain ⟨a', c', rfl, _⟩ := hd0
          replace hIH := Lib.hid hIH
          replace hFI := Lib.hid hFI
          replace hd := Lib.hid hd
          clear he
          have hne : b' ≠ b := fun e => hS (e ▸ hs)
          have hq : ∀ j v, ([.int .i64 k', .string nm', .int .i64 op', .string ev', .slice a' n' c'] : List Value)[j]? = some v → wr.cell? ⟨b', off + i * 5 + j, none⟩ = some v := fun j v hj => by
            have h0 := hcells j v hj
            have hb := HT.out.block b' (World.block_lt_of_cell? w _ h0) hne
            unfold World.cell? at *
            simp only [hb]
            exact h0
          have q0 : wr.cell? ⟨b', off + i * 5, none⟩ = some (.int .i64 k') := hq 0 _ rfl
          have q1 := hq 1 _ rfl
          have q2 := hq 2 _ rfl
          have q3 := hq 3 _ rfl
          have q4 := hq 4 _ rfl
          clear hq
          go_wp2_with fail
          have HTA := Lib.hid (HT.out.alloc (.cells #[.int .i64 k', .string nm', .int .i64 op', .string ev', .slice a' n' c'] 73) hblt)
          refine (hIH.out _ S _ b _ (hd.out.ticked hS HTA.out) hS HTA.out.at_).mono ?_
          rintro e w9 ⟨rfl, ht9⟩
          replace ht9 := Lib.hid (HTA.out.trans ht9)
          clear q0 q1 q2 q3 q4
          go_wp2_with fail
          go_roundw
          case rel => exact ⟨i + 1, by go_num, by omega, by
            have := ht9.out
            rw [upto_succ, hFI.out]
            have e : (z + ((c0 + (upto F i + nall (.mk k' nm' op' ev' n' args')) : Nat) : Int)) = z + ((c0 + upto F i : Nat) : Int) + (nall (.mk k' nm' op' ev' n' args') : Int) := by omega
            rw [e]
            exact this⟩
          case measure => simp [intOf]; omega
        · have hi1 : ¬ (i : Int) < (n : Int) := by omega
          have he : i = n := by omega
          have HT' : Hid (Ticked b (wrap64 (z + nall (.mk k nm op ev n args))) w wr) := by
            rw [HALL.out, ← he]; exact HT.out
          clear he
          go_wp2_with fail
          exact bodyPost_end (v := .tuple #[]) (by simp [results, Tryz.results109, go_sem]) rfl ⟨rfl, HT'.out⟩
    · have HB2 : Hid (Ticked b (wrap64 (z + c0)) w w1 ∧ Box5 w1 w.heap.size k nm op ev (.slice a n c)) := by
        have : c0 = 0 := by rw [← HC.out, if_neg (by simpa using hk)]
        subst this
        have e : wrap64 (z + (0 : Nat)) = wrap64 z := by simp
        rw [e]
        exact HB1.out
      go_wp2_with fail
      go_loopw [16] (fun vi wr => ∃ i : Nat, vi = .int .i64 i ∧ i ≤ n ∧ Hid (Ticked b (wrap64 (z + ((c0 + upto F i : Nat) : Int))) w wr)) (fun vi _ => n - (intOf vi).toNat)
      case atStart => exact ⟨0, rfl, Nat.zero_le _, HB2.out.1⟩
      case round =>
        obtain ⟨i, rfl, hin, HT⟩ := hrel
        by_cases hlt : i < n
        · have hi1 : (i : Int) < (n : Int) := by omega
          obtain ⟨b', off, rfl, hs, hi⟩ := HIN.out (by omega)
          obtain ⟨cs', hd, hcells⟩ := hi ⟨i, hlt⟩
          have hIH := IH.out ⟨i, hlt⟩
          have hFI := HFI.out ⟨i, hlt⟩
          obtain ⟨k', nm', op', ev', n', args', he⟩ : ∃ k' nm' op' ev' n' args', args ⟨i, hlt⟩ = .mk k' nm' op' ev' n' args' := by
            cases args ⟨i, hlt⟩ with
            | mk k' nm' op' ev' n' args' => exact ⟨k', nm', op', ev', n', args', rfl⟩
          rw [he] at hIH hFI hd
          have hd0 := hd
          obtain ⟨a', c', rfl, _⟩ := hd0
          replace hIH := Lib.hid hIH
          replace hFI := Lib.hid hFI
          replace hd := Lib.hid hd
          clear he
          have hne : b' ≠ b := fun e => hS (e ▸ hs)
          have hq : ∀ j v, ([.int .i64 k', .string nm', .int .i64 op', .string ev', .slice a' n' c'] : List Value)[j]? = some v → wr.cell? ⟨b', off + i * 5 + j, none⟩ = some v := fun j v hj => by
            have h0 := hcells j v hj
            have hb := HT.out.block b' (World.block_lt_of_cell? w _ h0) hne
            unfold World.cell? at *
            simp only [hb]
            exact h0
          have q0 : wr.cell? ⟨b', off + i * 5, none⟩ = some (.int .i64 k') := hq 0 _ rfl
          have q1 := hq 1 _ rfl
          have q2 := hq 2 _ rfl
          have q3 := hq 3 _ rfl
          have q4 := hq 4 _ rfl
          clear hq
          go_wp2_with fail
          have HTA := Lib.hid (HT.out.alloc (.cells #[.int .i64 k', .string nm', .int .i64 op', .string ev', .slice a' n' c'] 73) hblt)
          refine (hIH.out _ S _ b _ (hd.out.ticked hS HTA.out) hS HTA.out.at_).mono ?_
          rintro e w9 ⟨rfl, ht9⟩
          replace ht9 := Lib.hid (HTA.out.trans ht9)
          clear q0 q1 q2 q3 q4
          go_wp2_with fail
          go_roundw
          case rel => exact ⟨i + 1, by go_num, by omega, by
            have := ht9.out
            rw [upto_succ, hFI.out]
            have e : (z + ((c0 + (upto F i + nall (.mk k' nm' op' ev' n' args')) : Nat) : Int)) = z + ((c0 + upto F i : Nat) : Int) + (nall (.mk k' nm' op' ev' n' args') : Int) := by omega
            rw [e]
            exact this⟩
          case measure => simp [intOf]; omega
        · have hi1 : ¬ (i : Int) < (n : Int) := by omega
          have he : i = n := by omega
          have HT' : Hid (Ticked b (wrap64 (z + nall (.mk k nm op ev n args))) w wr) := by
            rw [HALL.out, ← he]; exact HT.out
          clear he
          go_wp2_with fail
          exact bodyPost_end (v := .tuple #[]) (by simp [results, Tryz.results109, go_sem]) rfl ⟨rfl, HT'.out⟩
end Go.Proofs.YtjcefgjgjhdbpaaGreatDoor
namespace Go.Proofs.YtjcefgjgjhdbpaaGreatDoor
set_option linter.unusedVariables false
set_option linter.unusedSimpArgs false
open Go.RowKit Go.Maps

theorem upto_congr {f g : Nat → Nat} : ∀ {n : Nat}, (∀ i, i < n → f i = g i) → upto f n = upto g n
  | 0, _ => rfl
  | n + 1, h => by rw [upto_succ, upto_succ, upto_congr fun i hi => h i (by omega), h n (by omega)]

theorem nall_form : ∀ (d : DepT), formB d = true → nall d = nparts d := by
  intro d
  induction d with
  | mk k nm op ev n args ih =>
    intro h
    by_cases hk : k = 1
    · subst hk
      unfold formB at h
      rw [if_pos rfl] at h
      have hn : n = 0 := by
        simp only [Bool.and_eq_true, decide_eq_true_eq] at h
        exact h.1.2
      subst hn
      rfl
    · rcases wrong_form (nm := nm) (op := op) (ev := ev) (args := args) hk with ⟨_, h2⟩ | ⟨_, _, _, _, _, _, _, h2⟩
      · rw [h2] at h; cases h
      · rw [h2] at h
        unfold nall nparts
        rw [if_neg hk, if_neg hk, Nat.zero_add]
        refine upto_congr fun i hi => ?_
        rw [dif_pos hi, dif_pos hi]
        refine ih ⟨i, hi⟩ ?_
        have := List.all_eq_true.1 h ⟨i, hi⟩ (List.mem_finRange _)
        exact (Bool.and_eq_true_iff.1 this).2

set_option maxHeartbeats 1000000 in
/-- dep.Check. -/
theorem depCheck_c (d : DepT) (cs : List Value) (S : Nat → Prop) (w : World) (h : DepC w S d cs) (hS : ∀ b, S b → b < w.heap.size) :
    Calls Tryz.prog 73 #[.agg cs.toArray] w fun e w' => e = .returned (.int .i64 (depCheck d)) ∧ Below w.heap.size w w' := by
  have hF := form_c d cs S
  have hA := all_c d cs S
  have hN := nall_form d
  obtain ⟨fB, hfB⟩ : ∃ fB, formB d = fB := ⟨_, rfl⟩
  obtain ⟨N, hNN⟩ : ∃ N : Int, wrap64 (nparts d) = N := ⟨_, rfl⟩
  have hD : Hid (depCheck d = if fB = false then 50 else if 16 < N then 51 else 0) := by rw [← hfB, ← hNN]; unfold depCheck wrap64; exact rfl
  rw [hfB] at hF hN
  have HF := Lib.hid hF
  have HA := Lib.hid hA
  have HN := Lib.hid hN
  have HNN := Lib.hid hNN
  have HH := Lib.hid h
  have HS := Lib.hid hS
  clear hF hA hN hNN hS hfB
  cases d with
  | mk k nm op ev n args =>
    obtain ⟨a, c, rfl, _⟩ := h
    obtain ⟨w1, e1⟩ : ∃ w1, w.alloc (.cells #[.int .i64 k, .string nm, .int .i64 op, .string ev, .slice a n c] 73) = w1 := ⟨_, rfl⟩
    have HB1 : Hid (Below w.heap.size w w1 ∧ Box5 w1 w.heap.size k nm op ev (.slice a n c)) := by
      rw [← e1]
      exact ⟨below1 _ _, .of (alloc_at _ _)⟩
    have p0 := HB1.out.2.c0
    have p1 := HB1.out.2.c1
    have p2 := HB1.out.2.c2
    have p3 := HB1.out.2.c3
    have p4 := HB1.out.2.c4
    go_enter Tryz.func73, Tryz.ntmps73
    go_wp2_with fail
    refine (HF.out w1 (HH.out.below HB1.out.1)).mono ?_
    rintro e w2 ⟨rfl, hb2⟩
    have HB2 : Hid (Below w.heap.size w w2 ∧ Box5 w2 w.heap.size k nm op ev (.slice a n c)) := ⟨below_tr HB1.out.1 hb2, HB1.out.2.below hb2⟩
    clear hb2 p0 p1 p2 p3 p4
    have p0 := HB2.out.2.c0
    have p1 := HB2.out.2.c1
    have p2 := HB2.out.2.c2
    have p3 := HB2.out.2.c3
    have p4 := HB2.out.2.c4
    cases fB with
    | false =>
      go_wp2_with fail
      go_ret
      exact ⟨by rw [hD.out]; rfl, HB2.out.1⟩
    | true =>
      have HB3 : Hid (Below w.heap.size w (w2.alloc (.cells #[.int .i64 0] 3)) ∧ Box5 (w2.alloc (.cells #[.int .i64 0] 3)) w.heap.size k nm op ev (.slice a n c) ∧ (w2.alloc (.cells #[.int .i64 0] 3)).heap[w2.heap.size]? = some (.cells #[.int .i64 0] 3 (0, 0))) :=
        ⟨below_tr HB2.out.1 (below1 _ _), HB2.out.2.below (below1 _ _), alloc_at _ _⟩
      have hge : Hid (w.heap.size ≤ w2.heap.size) := HB2.out.1.size
      clear p0 p1 p2 p3 p4
      have p0 := HB3.out.2.1.c0
      have p1 := HB3.out.2.1.c1
      have p2 := HB3.out.2.1.c2
      have p3 := HB3.out.2.1.c3
      have p4 := HB3.out.2.1.c4
      go_wp2_with fail
      refine (HA.out (w2.alloc (.cells #[.int .i64 0] 3)) w2.heap.size 0 (HH.out.below HB3.out.1) (fun hs => Nat.lt_irrefl _ (Nat.lt_of_lt_of_le (HS.out _ hs) hge.out)) (by rw [show wrap64 0 = 0 by unfold wrap64; omega]; exact HB3.out.2.2)).mono ?_
      rintro e w4 ⟨rfl, ht⟩
      have hb4 : Hid (Below w.heap.size w w4) := by
        have h3 := HB3.out.1
        refine ⟨ht.os.trans h3.os, ht.tape.trans h3.tape, ht.output.trans h3.output, Nat.le_trans h3.size ht.size, fun j hj => ?_⟩
        have hg := hge.out
        rw [ht.block j (Nat.lt_of_lt_of_le hj h3.size) (by omega)]
        exact h3.block j hj
      have hc : Hid (w4.cell? ⟨w2.heap.size, 0, none⟩ = some (.int .i64 N)) := by
        have := ht.at_
        rw [Int.zero_add, HN.out trivial, HNN.out] at this
        unfold World.cell?
        simp only [this]
        rfl
      clear ht p0 p1 p2 p3 p4
      have pc := hc.out
      by_cases h16 : 16 < N
      · go_wp2_with fail
        go_ret
        exact ⟨by rw [hD.out, if_neg (by simp), if_pos h16]; rfl, hb4.out⟩
      · go_wp2_with fail
        go_ret
        exact ⟨by rw [hD.out, if_neg (by simp), if_neg (by omega)]; rfl, hb4.out⟩
end Go.Proofs.YtjcefgjgjhdbpaaGreatDoor
