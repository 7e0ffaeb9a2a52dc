/-
  The names of a dependency, counted by the document's answer: the walk. Helper text; the conditions are those typed.
-/
import Derived.Test.YtgeimldijagkkaaDepChk
namespace Go.Proofs.Ytgeimldijagkkaa
set_option linter.unusedVariables false
set_option linter.unusedSimpArgs false
open Go.RowKit Go.Maps

/-- The element of a list of dependencies: the five cells, the dependency taken apart. -/
structure ElemAt (w : World) (S : Nat → Prop) (d : DepT) (b o : Nat) (k : Int) (nm : ByteArray) (op : Int) (ev : ByteArray) (a : Option Addr) (n c : Nat) (args : Fin n → DepT) : Prop where
  is_ : d = .mk k nm op ev n args
  dep : DepC w S d [.int .i64 k, .string nm, .int .i64 op, .string ev, .slice a n c]
  c0 : w.cell? ⟨b, o, none⟩ = some (.int .i64 k)
  c1 : w.cell? ⟨b, o + 1, none⟩ = some (.string nm)
  c2 : w.cell? ⟨b, o + 2, none⟩ = some (.int .i64 op)
  c3 : w.cell? ⟨b, o + 3, none⟩ = some (.string ev)
  c4 : w.cell? ⟨b, o + 4, none⟩ = some (.slice a n c)
theorem elem_at {w : World} {S : Nat → Prop} {d : DepT} {b o : Nat} (h : ∃ cs', DepC w S d cs' ∧ CellsAt w b o cs') : ∃ k nm op ev a n c args, ElemAt w S d b o k nm op ev a n c args := by
  obtain ⟨cs, hd, hc⟩ := h
  cases d with
  | mk k nm op ev n args =>
    have hd' := hd
    obtain ⟨a, c, rfl, _⟩ := hd'
    exact ⟨k, nm, op, ev, a, n, c, args, rfl, hd, hc 0 _ rfl, hc 1 _ rfl, hc 2 _ rfl, hc 3 _ rfl, hc 4 _ rfl⟩
theorem ElemAt.below {w w' : World} {S : Nat → Prop} {d : DepT} {b o : Nat} {k : Int} {nm : ByteArray} {op : Int} {ev : ByteArray} {a : Option Addr} {n c : Nat} {args : Fin n → DepT} (h : ElemAt w S d b o k nm op ev a n c args) (hb : Below w.heap.size w w') : ElemAt w' S d b o k nm op ev a n c args :=
  ⟨h.is_, h.dep.below hb, cell_tr hb h.c0, cell_tr hb h.c1, cell_tr hb h.c2, cell_tr hb h.c3, cell_tr hb h.c4⟩
theorem wrap_sum (a b : Int) : wrap64 (wrap64 a + wrap64 b) = wrap64 (a + b) := by unfold wrap64; omega

set_option maxHeartbeats 1000000 in
set_option maxRecDepth 100000 in
/-- The document's parts. -/
theorem rparts_c : ∀ (d : DepT) (cs : List Value) (S : Nat → Prop) (w : World), DepC w S d cs →
    Calls Try.prog 82 #[.agg cs.toArray] w fun e w' => e = .returned (.int .i64 (wrap64 (nparts d))) ∧ Below w.heap.size w w' := by
  intro d
  induction d with
  | mk k nm op ev n args ih =>
    intro cs S w h
    obtain ⟨a, c, rfl, hw, hnm, hev, hn, hin⟩ := h
    have IH := Lib.hid ih
    have HIN := Lib.hid hin
    clear ih hin
    show Calls Try.prog 82 #[.agg #[.int .i64 k, .string nm, .int .i64 op, .string ev, .slice a n c]] w fun e w' => e = .returned (.int .i64 (wrap64 (nparts (.mk k nm op ev n args)))) ∧ Below w.heap.size w w'
    obtain ⟨w1, e1⟩ : ∃ w1, w.alloc (.cells #[.int .i64 k, .string nm, .int .i64 op, .string ev, .slice a n c] 85) = w1 := ⟨_, rfl⟩
    have HB1 : Hid (Below w.heap.size w w1 ∧ Box5 w1 w.heap.size k nm op ev (.slice a n c)) := by
      rw [← e1]
      exact ⟨below1 _ _, .of (alloc_at _ _)⟩
    have p0 := HB1.out.2.c0
    have p4 := HB1.out.2.c4
    obtain ⟨F, hF⟩ : ∃ F : Nat → Nat, (fun j => if h : j < n then nparts (args ⟨j, h⟩) else 0) = F := ⟨_, rfl⟩
    have HALL : Hid (nparts (.mk k nm op ev n args) = if k = 1 then 1 else upto F n) := by rw [← hF]; exact rfl
    have HFI : Hid (∀ i : Fin n, F i = nparts (args i)) := fun i => by rw [← hF]; simp
    clear hF
    obtain ⟨NP, hNP⟩ : ∃ NP : Int, wrap64 (nparts (.mk k nm op ev n args)) = NP := ⟨_, rfl⟩
    rw [hNP]
    replace hNP := Lib.hid hNP
    go_enter Try.func82, Try.ntmps82
    have H : (k == 1) = true ∨ (k == 1) = false := by cases (k == 1) <;> simp
    rcases H with hk | hk
    · have HR : Hid (NP = 1) := by
        rw [← hNP.out, HALL.out, if_pos (by simpa using hk)]; unfold Hid wrap64; omega
      go_wp2_with fail
      go_ret
      exact ⟨by rw [HR.out]; rfl, HB1.out.1⟩
    · have HR : Hid (wrap64 ((upto F n : Nat) : Int) = NP) := by
        rw [← hNP.out, HALL.out, if_neg (by simpa using hk)]; exact rfl
      go_wp2_with fail
      go_loopw [3, 4] (fun vs vi wr => ∃ i : Nat, vi = .int .i64 i ∧ vs = .int .i64 (wrap64 ((upto F i : Nat) : Int)) ∧ i ≤ n ∧ Hid (Below w.heap.size w wr ∧ Box5 wr w.heap.size k nm op ev (.slice a n c))) (fun _ vi _ => n - (intOf vi).toNat)
      case atStart => exact ⟨0, rfl, by rw [show wrap64 ((upto F 0 : Nat) : Int) = 0 by show wrap64 0 = 0; unfold wrap64; omega], Nat.zero_le _, HB1.out⟩
      case round =>
        obtain ⟨i, rfl, rfl, hin, HT⟩ := hrel
        clear p0 p4
        have p0 := HT.out.2.c0
        have p4 := HT.out.2.c4
        obtain ⟨q, hq⟩ : ∃ q : Int, wrap64 ((upto F i : Nat) : Int) = q := ⟨_, rfl⟩
        rw [hq]
        replace hq := Lib.hid hq
        by_cases hlt : i < n
        · have hi1 : (i : Int) < (n : Int) := by omega
          obtain ⟨b', off, rfl, hs, hi⟩ := HIN.out (by omega)
          have hIH := IH.out ⟨i, hlt⟩
          have hFI := HFI.out ⟨i, hlt⟩
          obtain ⟨k', nm', op', ev', a', n', c', args', he⟩ := elem_at (hi ⟨i, hlt⟩)
          generalize args ⟨i, hlt⟩ = d' at hIH hFI he
          replace he := Lib.hid (he.below HT.out.1)
          replace hIH := Lib.hid hIH
          replace hFI := Lib.hid hFI
          clear hi
          have q0 := he.out.c0
          have q1 := he.out.c1
          have q2 := he.out.c2
          have q3 := he.out.c3
          have q4 := he.out.c4
          go_wp2_with fail
          refine (hIH.out _ S _ he.out.dep).mono ?_
          rintro e w9 ⟨rfl, hb9⟩
          replace hb9 := Lib.hid hb9
          clear q0 q1 q2 q3 q4
          go_wp2_with fail
          go_roundw
          case rel => exact ⟨i + 1, by go_num, by
            congr 1
            show wrap64 (q + wrap64 (nparts d' : Int)) = wrap64 ((upto F (i + 1) : Nat) : Int)
            rw [← hq.out, wrap_sum, upto_succ, hFI.out, Int.natCast_add], by omega, below_tr HT.out.1 hb9.out, HT.out.2.below hb9.out⟩
          case measure => simp [intOf]; omega
        · have hi1 : ¬ (i : Int) < (n : Int) := by omega
          have he : q = NP := by
            have : i = n := by omega
            rw [← hq.out, ← HR.out, this]
          subst he
          go_wp2_with fail
          go_ret
          exact ⟨rfl, HT.out.1⟩
end Go.Proofs.Ytgeimldijagkkaa
