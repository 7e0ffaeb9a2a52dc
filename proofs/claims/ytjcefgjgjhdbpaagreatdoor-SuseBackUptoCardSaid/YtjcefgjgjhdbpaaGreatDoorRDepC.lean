/-
  The names of a dependency, counted by the document's answer: the walk. Helper text; the conditions are those typed.
  A dependency's form by the document's answer: the walk. Helper text; the conditions are those typed.
  A dependency's form and Check by the document's answer: the contracts. Helper text; the conditions are those typed.
-/
import Derived.Test.YtjcefgjgjhdbpaaGreatDoorDepChk
import Derived.Test.YtjcefgjgjhdbpaaGreatDoorRefF
namespace Go.Proofs.YtjcefgjgjhdbpaaGreatDoor
set_option linter.unusedVariables false
set_option linter.unusedSimpArgs false
open Go.RowKit Go.Maps

/-- The element of a list of dependencies: the five cells, the dependency taken apart. -/
structure ElemAt (w : World) (S : Nat → Prop) (d : DepT) (b o : Nat) (k : Int) (nm : ByteArray) (op : Int) (ev : ByteArray) (a : Option Addr) (n c : Nat) (args : Fin n → DepT) : Prop where
  is_ : d = .mk k nm op ev n args
  dep : DepC w S d [.int .i64 k, .string nm, .int .i64 op, .string ev, .slice a n c]
  c0 : w.cell? ⟨b, o, none⟩ = some (.int .i64 k)
  c1 : w.cell? ⟨b, o + 1, none⟩ = some (.string nm)
  c2 : w.cell? ⟨b, o + 2, none⟩ = some (.int .i64 op)
  c3 : w.cell? ⟨b, o + 3, none⟩ = some (.string ev)
  c4 : w.cell? ⟨b, o + 4, none⟩ = some (.slice a n c)
theorem elem_at {w : World} {S : Nat → Prop} {d : DepT} {b o : Nat} (h : ∃ cs', DepC w S d cs' ∧ CellsAt w b o cs') : ∃ k nm op ev a n c args, ElemAt w S d b o k nm op ev a n c args := by
  obtain ⟨cs, hd, hc⟩ := h
  cases d with
  | mk k nm op ev n args =>
    have hd' := hd
    obtain ⟨a, c, rfl, _⟩ := hd'
    exact ⟨k, nm, op, ev, a, n, c, args, rfl, hd, hc 0 _ rfl, hc 1 _ rfl, hc 2 _ rfl, hc 3 _ rfl, hc 4 _ rfl⟩
theorem ElemAt.below {w w' : World} {S : Nat → Prop} {d : DepT} {b o : Nat} {k : Int} {nm : ByteArray} {op : Int} {ev : ByteArray} {a : Option Addr} {n c : Nat} {args : Fin n → DepT} (h : ElemAt w S d b o k nm op ev a n c args) (hb : Below w.heap.size w w') : ElemAt w' S d b o k nm op ev a n c args :=
  ⟨h.is_, h.dep.below hb, cell_tr hb h.c0, cell_tr hb h.c1, cell_tr hb h.c2, cell_tr hb h.c3, cell_tr hb h.c4⟩
theorem wrap_sum (a b : Int) : wrap64 (wrap64 a + wrap64 b) = wrap64 (a + b) := by unfold wrap64; omega

set_option maxHeartbeats 1000000 in
set_option maxRecDepth 100000 in
/-- The document's parts. -/
theorem rparts_c : ∀ (d : DepT) (cs : List Value) (S : Nat → Prop) (w : World), DepC w S d cs →
    Calls Tryz.prog 138 #[.agg cs.toArray] w fun e w' => e = .returned (.int .i64 (wrap64 (nparts d))) ∧ Below w.heap.size w w' := by
  intro d
  induction d with
  | mk k nm op ev n args ih =>
    intro cs S w h
    obtain ⟨a, c, rfl, hw, hnm, hev, hn, hin⟩ := h
    have IH := Lib.hid ih
    have HIN := Lib.hid hin
    clear ih hin
    show Calls Tryz.prog 138 #[.agg #[.int .i64 k, .string nm, .int .i64 op, .string ev, .slice a n c]] w fun e w' => e = .returned (.int .i64 (wrap64 (nparts (.mk k nm op ev n args)))) ∧ Below w.heap.size w w'
    obtain ⟨w1, e1⟩ : ∃ w1, w.alloc (.cells #[.int .i64 k, .string nm, .int .i64 op, .string ev, .slice a n c] 73) = w1 := ⟨_, rfl⟩
    have HB1 : Hid (Below w.heap.size w w1 ∧ Box5 w1 w.heap.size k nm op ev (.slice a n c)) := by
      rw [← e1]
      exact ⟨below1 _ _, .of (alloc_at _ _)⟩
    have p0 := HB1.out.2.c0
    have p4 := HB1.out.2.c4
    obtain ⟨F, hF⟩ : ∃ F : Nat → Nat, (fun j => if h : j < n then nparts (args ⟨j, h⟩) else 0) = F := ⟨_, rfl⟩
    have HALL : Hid (nparts (.mk k nm op ev n args) = if k = 1 then 1 else upto F n) := by rw [← hF]; exact rfl
    have HFI : Hid (∀ i : Fin n, F i = nparts (args i)) := fun i => by rw [← hF]; simp
    clear hF
    obtain ⟨NP, hNP⟩ : ∃ NP : Int, wrap64 (nparts (.mk k nm op ev n args)) = NP := ⟨_, rfl⟩
    rw [hNP]
    replace hNP := Lib.hid hNP
    go_enter Tryz.func138, Tryz.ntmps138
    have H : (k == 1) = true ∨ (k == 1) = false := by cases (k == 1) <;> simp
    rcases H with hk | hk
    · have HR : Hid (NP = 1) := by
        rw [← hNP.out, HALL.out, if_pos (by simpa using hk)]; unfold Hid wrap64; omega
      go_wp2_with fail
      go_ret
      exact ⟨by rw [HR.out]; rfl, HB1.out.1⟩
    · have HR : Hid (wrap64 ((upto F n : Nat) : Int) = NP) := by
        rw [← hNP.out, HALL.out, if_neg (by simpa using hk)]; exact rfl
      go_wp2_with fail
      go_loopw [3, 4] (fun vs vi wr => ∃ i : Nat, vi = .int .i64 i ∧ vs = .int .i64 (wrap64 ((upto F i : Nat) : Int)) ∧ i ≤ n ∧ Hid (Below w.heap.size w wr ∧ Box5 wr w.heap.size k nm op ev (.slice a n c))) (fun _ vi _ => n - (intOf vi).toNat)
      case atStart => exact ⟨0, rfl, by rw [show wrap64 ((upto F 0 : Nat) : Int) = 0 by show wrap64 0 = 0; unfold wrap64; omega], Nat.zero_le _, HB1.out⟩
      case round =>
        obtain ⟨i, rfl, rfl, hin, HT⟩ := hrel
        clear p0 p4
        have p0 := HT.out.2.c0
        have p4 := HT.out.2.c4
        obtain ⟨q, hq⟩ : ∃ q : Int, wrap64 ((upto F i : Nat) : Int) = q := ⟨_, rfl⟩
        rw [hq]
        replace hq := Lib.hid hq
        by_cases hlt : i < n
        · have hi1 : (i : Int) < (n : Int) := by omega
          obtain ⟨b', off, rfl, hs, hi⟩ := HIN.out (by omega)
          have hIH := IH.out ⟨i, hlt⟩
          have hFI := HFI.out ⟨i, hlt⟩
          obtain ⟨k', nm', op', ev', a', n', c', args', he⟩ := elem_at (hi ⟨i, hlt⟩)
          generalize args ⟨i, hlt⟩ = d' at hIH hFI he
          replace he := Lib.hid (he.below HT.out.1)
          replace hIH := Lib.hid hIH
          replace hFI := Lib.hid hFI
          clear hi
          have q0 := he.out.c0
          have q1 := he.out.c1
          have q2 := he.out.c2
          have q3 := he.out.c3
          have q4 := he.out.c4
          go_wp2_with fail
          refine (hIH.out _ S _ he.out.dep).mono ?_
          rintro e w9 ⟨rfl, hb9⟩
          replace hb9 := Lib.hid hb9
          clear q0 q1 q2 q3 q4
          go_wp2_with fail
          go_roundw
          case rel => exact ⟨i + 1, by go_num, by
            congr 1
            show wrap64 (q + wrap64 (nparts d' : Int)) = wrap64 ((upto F (i + 1) : Nat) : Int)
            rw [← hq.out, wrap_sum, upto_succ, hFI.out, Int.natCast_add], by omega, below_tr HT.out.1 hb9.out, HT.out.2.below hb9.out⟩
          case measure => simp [intOf]; omega
        · have hi1 : ¬ (i : Int) < (n : Int) := by omega
          have he : q = NP := by
            have : i = n := by omega
            rw [← hq.out, ← HR.out, this]
          subst he
          go_wp2_with fail
          go_ret
          exact ⟨rfl, HT.out.1⟩
end Go.Proofs.YtjcefgjgjhdbpaaGreatDoor
namespace Go.Proofs.YtjcefgjgjhdbpaaGreatDoor
set_option linter.unusedVariables false
set_option linter.unusedSimpArgs false
open Go.RowKit Go.Maps

set_option maxHeartbeats 1000000 in
set_option maxRecDepth 100000 in
theorem rform_name (nm : ByteArray) (op : Int) (ev : ByteArray) (hev : ev.size ≤ maxLen) (a : Option Addr) (n c : Nat) (w : World) (B : Bool) (hB : nameB nm = B) (q : Int) (hq : errOf (parse (bs ev)) = q) (res : Bool)
    (h : (B = false ∧ res = false) ∨ (B = true ∧ op < 0 ∧ res = false) ∨ (B = true ∧ ¬ op < 0 ∧ 7 < op ∧ res = false) ∨ (B = true ∧ ¬ op < 0 ∧ ¬ 7 < op ∧ 0 < (n : Int) ∧ res = false) ∨
      (B = true ∧ ¬ op < 0 ∧ ¬ 7 < op ∧ ¬ 0 < (n : Int) ∧ (op == 0) = true ∧ ev.toList.isEmpty = true ∧ res = true) ∨
      (B = true ∧ ¬ op < 0 ∧ ¬ 7 < op ∧ ¬ 0 < (n : Int) ∧ (op == 0) = true ∧ ev.toList.isEmpty = false ∧ res = false) ∨
      (B = true ∧ ¬ op < 0 ∧ ¬ 7 < op ∧ ¬ 0 < (n : Int) ∧ (op == 0) = false ∧ (q == 0) = res)) :
    Calls Tryz.prog 137 #[.agg #[.int .i64 1, .string nm, .int .i64 op, .string ev, .slice a n c]] w fun e w' => e = .returned (.bool res) ∧ Below w.heap.size w w' := by
  have HN := rname_c nm
  rw [hB] at HN
  replace HN := Lib.hid HN
  have HP := rparse_c ev hev
  unfold ParseX at HP
  obtain ⟨x, y, z, hv⟩ := evrV_ex (parse (bs ev))
  rw [hv, hq] at HP
  replace HP := Lib.hid HP
  clear hv hq hB hev
  obtain ⟨w1, e1⟩ : ∃ w1, w.alloc (.cells #[.int .i64 1, .string nm, .int .i64 op, .string ev, .slice a n c] 73) = w1 := ⟨_, rfl⟩
  have HB1 : Hid (Below w.heap.size w w1 ∧ Box5 w1 w.heap.size 1 nm op ev (.slice a n c)) := by
    rw [← e1]
    exact ⟨below1 _ _, .of (alloc_at _ _)⟩
  have p0 := HB1.out.2.c0
  have p1 := HB1.out.2.c1
  have p2 := HB1.out.2.c2
  have p3 := HB1.out.2.c3
  have p4 := HB1.out.2.c4
  go_enter Tryz.func137, Tryz.ntmps137
  go_wp2_with fail
  refine (HN.out w1).mono ?_
  rintro e w2 ⟨rfl, rfl⟩
  rcases h with ⟨rfl, rfl⟩ | ⟨rfl, g1, rfl⟩ | ⟨rfl, g1, g2, rfl⟩ | ⟨rfl, g1, g2, g3, rfl⟩ | ⟨rfl, g1, g2, g3, g4, g5, rfl⟩ | ⟨rfl, g1, g2, g3, g4, g5, rfl⟩ | ⟨rfl, g1, g2, g3, g4, g5⟩
  case inr.inr.inr.inr.inr.inr =>
    go_wp2_with fail
    refine (HP.out w1).mono ?_
    rintro e w3 ⟨rfl, hb3⟩
    replace hb3 := Lib.hid (below_tr HB1.out.1 hb3)
    clear p0 p1 p2 p3 p4
    go_wp2_with fail
    go_ret
    exact ⟨by rw [← g5]; rfl, below_tr hb3.out (below1 _ _)⟩
  all_goals
    go_wp2_with fail
    go_ret
    exact ⟨by first | rfl | simp [g5, getD_at], HB1.out.1⟩
end Go.Proofs.YtjcefgjgjhdbpaaGreatDoor
namespace Go.Proofs.YtjcefgjgjhdbpaaGreatDoor
set_option linter.unusedVariables false
set_option linter.unusedSimpArgs false
open Go.RowKit Go.Maps

/-- A form that is wrong, of no name, as the document asks. -/
def WrongR (k : Int) (nm : ByteArray) (op : Int) (ev : ByteArray) (n : Nat) : Prop :=
  k < 2 ∨ (¬ k < 2 ∧ 6 < k) ∨ (¬ k < 2 ∧ ¬ 6 < k ∧ nm.toList.isEmpty = false) ∨ (¬ k < 2 ∧ ¬ 6 < k ∧ nm.toList.isEmpty = true ∧ (op != 0) = true) ∨ (¬ k < 2 ∧ ¬ 6 < k ∧ nm.toList.isEmpty = true ∧ (op != 0) = false ∧ ev.toList.isEmpty = false) ∨
  (¬ k < 2 ∧ ¬ 6 < k ∧ nm.toList.isEmpty = true ∧ (op != 0) = false ∧ ev.toList.isEmpty = true ∧ (n : Int) < 2) ∨
  (¬ k < 2 ∧ ¬ 6 < k ∧ nm.toList.isEmpty = true ∧ (op != 0) = false ∧ ev.toList.isEmpty = true ∧ ¬ (n : Int) < 2 ∧ (k == 4) = true ∧ 3 < (n : Int)) ∨
  (¬ k < 2 ∧ ¬ 6 < k ∧ nm.toList.isEmpty = true ∧ (op != 0) = false ∧ ev.toList.isEmpty = true ∧ ¬ (n : Int) < 2 ∧ (k == 4) = false ∧ (k == 6) = true ∧ 2 < (n : Int))
theorem wrongR_of {k : Int} {nm : ByteArray} {op : Int} {ev : ByteArray} {n : Nat} (h : Wrong k nm op ev n) : WrongR k nm op ev n := by
  unfold Wrong at h
  unfold WrongR
  rcases h with h | h | h | h | h | h | ⟨g1, g2, g3, g4, g5, g6, g7, g8⟩
  · exact .inl h
  · exact .inr (.inl h)
  · exact .inr (.inr (.inl h))
  · exact .inr (.inr (.inr (.inl h)))
  · exact .inr (.inr (.inr (.inr (.inl h))))
  · exact .inr (.inr (.inr (.inr (.inr (.inl h)))))
  · unfold mostOf at g7 g8
    by_cases h4 : k = 4
    · rw [if_pos h4] at g8
      exact .inr (.inr (.inr (.inr (.inr (.inr (.inl ⟨g1, g2, g3, g4, g5, g6, by simpa using h4, g8⟩))))))
    · rw [if_neg h4] at g7 g8
      by_cases h6 : k = 6
      · rw [if_pos h6] at g8
        exact .inr (.inr (.inr (.inr (.inr (.inr (.inr ⟨g1, g2, g3, g4, g5, g6, by simpa using h4, by simpa using h6, g8⟩))))))
      · rw [if_neg h6] at g7
        exact absurd g7 (by decide)

set_option maxHeartbeats 1000000 in
set_option maxRecDepth 100000 in
theorem rform_bad (k : Int) (nm : ByteArray) (op : Int) (ev : ByteArray) (a : Option Addr) (n c : Nat) (w : World) (hk : (k == 1) = false) (h : WrongR k nm op ev n) :
    Calls Tryz.prog 137 #[.agg #[.int .i64 k, .string nm, .int .i64 op, .string ev, .slice a n c]] w fun e w' => e = .returned (.bool false) ∧ Below w.heap.size w w' := by
  obtain ⟨w1, e1⟩ : ∃ w1, w.alloc (.cells #[.int .i64 k, .string nm, .int .i64 op, .string ev, .slice a n c] 73) = w1 := ⟨_, rfl⟩
  have HB1 : Hid (Below w.heap.size w w1 ∧ Box5 w1 w.heap.size k nm op ev (.slice a n c)) := by
    rw [← e1]
    exact ⟨below1 _ _, .of (alloc_at _ _)⟩
  have p0 := HB1.out.2.c0
  have p1 := HB1.out.2.c1
  have p2 := HB1.out.2.c2
  have p3 := HB1.out.2.c3
  have p4 := HB1.out.2.c4
  unfold WrongR at h
  go_enter Tryz.func137, Tryz.ntmps137
  rcases h with g | ⟨g1, g⟩ | ⟨g1, g2, g⟩ | ⟨g1, g2, g3, g⟩ | ⟨g1, g2, g3, g4, g⟩ | ⟨g1, g2, g3, g4, g5, g⟩ | ⟨g1, g2, g3, g4, g5, g6, g7, g⟩ | ⟨g1, g2, g3, g4, g5, g6, g7, g8, g⟩
  all_goals
    go_wp2_with fail
    go_ret
    exact ⟨rfl, HB1.out.1⟩

set_option maxHeartbeats 2000000 in
set_option maxRecDepth 100000 in
theorem rform_good (k : Int) (nm : ByteArray) (op : Int) (ev : ByteArray) (b' off n c : Nat) (S : Nat → Prop) (args : Fin n → DepT) (w : World) (hk : (k == 1) = false)
    (g1 : ¬ k < 2) (g2 : ¬ 6 < k) (g3 : nm.toList.isEmpty = true) (g4 : (op != 0) = false) (g5 : ev.toList.isEmpty = true) (g6 : ¬ (n : Int) < 2) (hn : n * 72 ≤ 140737488355328)
    (g7 : ((k == 4) = true ∧ ¬ 3 < (n : Int) ∧ (k == 6) = false) ∨ ((k == 4) = false ∧ (k == 6) = true ∧ ¬ 2 < (n : Int)) ∨ ((k == 4) = false ∧ (k == 6) = false))
    (HI : Hid (∀ i : Fin n, ∃ cs', DepC w S (args i) cs' ∧ CellsAt w b' (off + i * 5) cs'))
    (IH : Hid (∀ (i : Fin n) (cs : List Value) (S : Nat → Prop) (w : World), DepC w S (args i) cs → Calls Tryz.prog 137 #[.agg cs.toArray] w fun e w' => e = .returned (.bool (formB (args i))) ∧ Below w.heap.size w w')) :
    Calls Tryz.prog 137 #[.agg #[.int .i64 k, .string nm, .int .i64 op, .string ev, .slice (some ⟨b', off, none⟩) n c]] w fun e w' => e = .returned (.bool ((List.finRange n).all fun i => (decide (k < 5) || plainK (args i).kind) && formB (args i))) ∧ Below w.heap.size w w' := by
  obtain ⟨RES, hRES⟩ : ∃ RES, ((List.finRange n).all fun i => (decide (k < 5) || plainK (args i).kind) && formB (args i)) = RES := ⟨_, rfl⟩
  rw [hRES]
  have HNO : Hid (∀ i : Fin n, ((decide (k < 5) || plainK (args i).kind) && formB (args i)) = false → RES = false) := by
    intro i hi
    rw [← hRES, List.all_eq_false]
    exact ⟨i, List.mem_finRange i, by simp only [hi]; decide⟩
  have HYES : Hid ((∀ j (h : j < n), ((decide (k < 5) || plainK (args ⟨j, h⟩).kind) && formB (args ⟨j, h⟩)) = true) → RES = true) := by
    intro h
    rw [← hRES, List.all_eq_true]
    intro i _
    exact h i i.2
  clear hRES
  obtain ⟨w1, e1⟩ : ∃ w1, w.alloc (.cells #[.int .i64 k, .string nm, .int .i64 op, .string ev, .slice (some ⟨b', off, none⟩) n c] 73) = w1 := ⟨_, rfl⟩
  have HB1 : Hid (Below w.heap.size w w1 ∧ Box5 w1 w.heap.size k nm op ev (.slice (some ⟨b', off, none⟩) n c)) := by
    rw [← e1]
    exact ⟨below1 _ _, .of (alloc_at _ _)⟩
  have p0 := HB1.out.2.c0
  have p1 := HB1.out.2.c1
  have p2 := HB1.out.2.c2
  have p3 := HB1.out.2.c3
  have p4 := HB1.out.2.c4
  go_enter Tryz.func137, Tryz.ntmps137
  rcases g7 with ⟨g7, g8, g9⟩ | ⟨g7, g8, g9⟩ | ⟨g7, g8⟩
  all_goals
    go_wp2_with fail
    go_loopw [7] (fun vi wr => ∃ i : Nat, vi = .int .i64 i ∧ i ≤ n ∧ Hid (∀ j (h : j < n), j < i → ((decide (k < 5) || plainK (args ⟨j, h⟩).kind) && formB (args ⟨j, h⟩)) = true) ∧ Hid (Below w.heap.size w wr ∧ Box5 wr w.heap.size k nm op ev (.slice (some ⟨b', off, none⟩) n c))) (fun vi _ => n - (intOf vi).toNat)
    case atStart => exact ⟨0, rfl, Nat.zero_le _, fun j h h0 => absurd h0 (Nat.not_lt_zero _), HB1.out⟩
    case round =>
      obtain ⟨i, rfl, hin, HG, HT⟩ := hrel
      clear p0 p1 p2 p3 p4
      have p0 := HT.out.2.c0
      have p4 := HT.out.2.c4
      by_cases hlt : i < n
      · have hi1 : (i : Int) < (n : Int) := by omega
        have hIH := IH.out ⟨i, hlt⟩
        obtain ⟨k', nm', op', ev', a', n', c', args', he⟩ := elem_at (HI.out ⟨i, hlt⟩)
        have hNO := HNO.out ⟨i, hlt⟩
        have hOK : ((decide (k < 5) || plainK (args ⟨i, hlt⟩).kind) && formB (args ⟨i, hlt⟩)) = true → ∀ j (h : j < n), j < i + 1 → ((decide (k < 5) || plainK (args ⟨j, h⟩).kind) && formB (args ⟨j, h⟩)) = true := by
          intro h0 j h hj
          rcases Nat.lt_succ_iff_lt_or_eq.1 hj with h1 | h1
          · exact HG.out j h h1
          · subst h1; exact h0
        replace hOK := Lib.hid hOK
        have hkd : (args ⟨i, hlt⟩).kind = k' := by rw [he.is_]; rfl
        rw [hkd] at hNO hOK
        generalize args ⟨i, hlt⟩ = d' at hIH he hNO hOK
        clear hkd
        replace he := Lib.hid (he.below HT.out.1)
        replace hIH := Lib.hid hIH
        obtain ⟨fa, hfa⟩ : ∃ fa, formB d' = fa := ⟨_, rfl⟩
        rw [hfa] at hIH hNO hOK
        have H : ((¬ 5 ≤ k ∨ 5 ≤ k ∧ (k' != 1) = false ∨ 5 ≤ k ∧ (k' != 1) = true ∧ (k' != 5) = false ∨ 5 ≤ k ∧ (k' != 1) = true ∧ (k' != 5) = true ∧ (k' != 6) = false) ∧ Hid (((decide (k < 5) || plainK k') && fa) = fa)) ∨ (5 ≤ k ∧ (k' != 1) = true ∧ (k' != 5) = true ∧ (k' != 6) = true ∧ Hid (((decide (k < 5) || plainK k') && fa) = false)) := by
          unfold plainK
          unfold Hid
          by_cases h5 : k < 5
          · have h5' : ¬ 5 ≤ k := by omega
            left
            exact ⟨.inl h5', by simp [h5]⟩
          · have h5' : 5 ≤ k := by omega
            by_cases h1 : k' = 1
            · left; subst h1; exact ⟨.inr (.inl ⟨h5', by simp⟩), by simp⟩
            · by_cases h2 : k' = 5
              · left; subst h2; exact ⟨.inr (.inr (.inl ⟨h5', by simp, by simp⟩)), by simp⟩
              · by_cases h3 : k' = 6
                · left; subst h3; exact ⟨.inr (.inr (.inr ⟨h5', by simp, by simp, by simp⟩)), by simp⟩
                · right; exact ⟨h5', by simp [h1], by simp [h2], by simp [h3], by simp [h1, h2, h3, h5]⟩
        replace hNO := Lib.hid hNO
        clear hfa
        have q0 := he.out.c0
        have q1 := he.out.c1
        have q2 := he.out.c2
        have q3 := he.out.c3
        have q4 := he.out.c4
        rcases H with ⟨H, HR⟩ | ⟨h5, h1, h2, h, HR⟩
        · rcases H with h5 | ⟨h5, h⟩ | ⟨h5, h1, h⟩ | ⟨h5, h1, h2, h⟩
          all_goals
            go_wp2_with fail
            refine (hIH.out _ S _ he.out.dep).mono ?_
            rintro e w9 ⟨rfl, hb9⟩
            replace hb9 := Lib.hid hb9
            clear q0 q1 q2 q3 q4
            cases fa with
            | false =>
              go_wp2_with fail
              go_ret
              exact ⟨by rw [hNO.out HR.out]; rfl, below_tr HT.out.1 hb9.out⟩
            | true =>
              go_wp2_with fail
              go_roundw
              case rel => exact ⟨i + 1, by go_num, by omega, hOK.out HR.out, below_tr HT.out.1 hb9.out, HT.out.2.below hb9.out⟩
              case measure => simp [intOf]; omega
        · go_wp2_with fail
          go_ret
          exact ⟨by rw [hNO.out HR.out]; rfl, HT.out.1⟩
      · have hi1 : ¬ (i : Int) < (n : Int) := by omega
        have hR := HYES.out fun j h => HG.out j h (by omega)
        go_wp2_with fail
        go_ret
        exact ⟨rfl, HT.out.1⟩
theorem rname_form {nm : ByteArray} {op : Int} {ev : ByteArray} {n : Nat} {args : Fin n → DepT} {B : Bool} (hB : nameB nm = B) {q : Int} (hq : errOf (parse (bs ev)) = q) {res : Bool} (hr : formB (.mk 1 nm op ev n args) = res) :
    (B = false ∧ res = false) ∨ (B = true ∧ op < 0 ∧ res = false) ∨ (B = true ∧ ¬ op < 0 ∧ 7 < op ∧ res = false) ∨ (B = true ∧ ¬ op < 0 ∧ ¬ 7 < op ∧ 0 < (n : Int) ∧ res = false) ∨
      (B = true ∧ ¬ op < 0 ∧ ¬ 7 < op ∧ ¬ 0 < (n : Int) ∧ (op == 0) = true ∧ ev.toList.isEmpty = true ∧ res = true) ∨
      (B = true ∧ ¬ op < 0 ∧ ¬ 7 < op ∧ ¬ 0 < (n : Int) ∧ (op == 0) = true ∧ ev.toList.isEmpty = false ∧ res = false) ∨
      (B = true ∧ ¬ op < 0 ∧ ¬ 7 < op ∧ ¬ 0 < (n : Int) ∧ (op == 0) = false ∧ (q == 0) = res) := by
  rcases name_form hB hq hr with h | ⟨h1, h2, h3⟩ | ⟨h1, h2, h3, h4, h5⟩ | ⟨h1, h2, h3, h4, h5, h6⟩ | ⟨h1, h2, h3, h4, h5⟩ | ⟨h1, h2, h3, h4, h5, h6⟩ | ⟨h1, h2, h3, h4, h5, h6⟩
  · exact .inl h
  · have hn : 0 < (n : Int) := by
      have : ¬ (n : Int) = 0 := by simpa using h2
      omega
    by_cases a1 : op < 0
    · exact .inr (.inl ⟨h1, a1, h3⟩)
    by_cases a2 : 7 < op
    · exact .inr (.inr (.inl ⟨h1, a1, a2, h3⟩))
    exact .inr (.inr (.inr (.inl ⟨h1, a1, a2, hn, h3⟩)))
  · have hn : (n : Int) = 0 := by simpa using h2
    have ho : op = 0 := by simpa using h3
    exact .inr (.inr (.inr (.inr (.inl ⟨h1, by omega, by omega, by omega, h3, h4, h5⟩))))
  · have hn : (n : Int) = 0 := by simpa using h2
    have ho : op = 0 := by simpa using h3
    exact .inr (.inr (.inr (.inr (.inr (.inl ⟨h1, by omega, by omega, by omega, h3, h4, h6⟩)))))
  · have hn : (n : Int) = 0 := by simpa using h2
    have ho : ¬ op = 0 := by simpa using h3
    exact .inr (.inl ⟨h1, by omega, h5⟩)
  · exact .inr (.inr (.inl ⟨h1, by omega, h5, h6⟩))
  · have hn : (n : Int) = 0 := by simpa using h2
    exact .inr (.inr (.inr (.inr (.inr (.inr ⟨h1, by omega, by omega, by omega, h3, h6⟩)))))

/-- The document's form. -/
theorem rform_c : ∀ (d : DepT) (cs : List Value) (S : Nat → Prop) (w : World), DepC w S d cs → Calls Tryz.prog 137 #[.agg cs.toArray] w fun e w' => e = .returned (.bool (formB d)) ∧ Below w.heap.size w w' := by
  intro d
  induction d with
  | mk k nm op ev n args ih =>
    intro cs S w h
    obtain ⟨a, c, rfl, hw, hnm, hev, hn, hin⟩ := h
    by_cases hk : k = 1
    · subst hk
      exact rform_name nm op ev hev a n c w _ rfl _ rfl _ (rname_form rfl rfl rfl)
    · have hk' : (k == 1) = false := by simpa using hk
      rcases wrong_form (nm := nm) (op := op) (ev := ev) (args := args) hk with ⟨h1, h2⟩ | ⟨g1, g2, g3, g4, g5, g6, g7, h2⟩
      · rw [h2]
        exact rform_bad k nm op ev a n c w hk' (wrongR_of h1)
      · rw [h2]
        obtain ⟨b, off, rfl, hs, hi⟩ := hin (by omega)
        refine rform_good k nm op ev b off n c S args w hk' g1 g2 g3 g4 g5 g6 hn ?_ hi ih
        unfold mostOf at g7
        by_cases h4 : k = 4
        · have h6 : (k == 6) = false := by rw [h4]; rfl
          rw [if_pos h4] at g7
          exact .inl ⟨by simpa using h4, by omega, h6⟩
        · rw [if_neg h4] at g7
          by_cases h6 : k = 6
          · rw [if_pos h6] at g7
            exact .inr (.inl ⟨by simpa using h4, by simpa using h6, by omega⟩)
          · exact .inr (.inr ⟨by simpa using h4, by simpa using h6⟩)

set_option maxHeartbeats 1000000 in
/-- The document's Check of a dependency. -/
theorem rdepCheck_c (d : DepT) (cs : List Value) (S : Nat → Prop) (w : World) (h : DepC w S d cs) :
    Calls Tryz.prog 117 #[.agg cs.toArray] w fun e w' => e = .returned (.int .i64 (depCheck d)) ∧ Below w.heap.size w w' := by
  have hF := rform_c d cs S
  have hA := rparts_c d cs S
  obtain ⟨fB, hfB⟩ : ∃ fB, formB d = fB := ⟨_, rfl⟩
  obtain ⟨N, hNN⟩ : ∃ N : Int, wrap64 (nparts d) = N := ⟨_, rfl⟩
  have hD : Hid (depCheck d = if fB = false then 50 else if 16 < N then 51 else 0) := by rw [← hfB, ← hNN]; unfold depCheck wrap64; exact rfl
  rw [hfB] at hF
  rw [hNN] at hA
  have HF := Lib.hid hF
  have HA := Lib.hid hA
  have HH := Lib.hid h
  clear hF hA hNN hfB
  cases d with
  | mk k nm op ev n args =>
    obtain ⟨a, c, rfl, _⟩ := h
    obtain ⟨w1, e1⟩ : ∃ w1, w.alloc (.cells #[.int .i64 k, .string nm, .int .i64 op, .string ev, .slice a n c] 73) = w1 := ⟨_, rfl⟩
    have HB1 : Hid (Below w.heap.size w w1 ∧ Box5 w1 w.heap.size k nm op ev (.slice a n c)) := by
      rw [← e1]
      exact ⟨below1 _ _, .of (alloc_at _ _)⟩
    have p0 := HB1.out.2.c0
    have p1 := HB1.out.2.c1
    have p2 := HB1.out.2.c2
    have p3 := HB1.out.2.c3
    have p4 := HB1.out.2.c4
    go_enter Tryz.func117, Tryz.ntmps117
    go_wp2_with fail
    refine (HF.out w1 (HH.out.below HB1.out.1)).mono ?_
    rintro e w2 ⟨rfl, hb2⟩
    have HB2 : Hid (Below w.heap.size w w2 ∧ Box5 w2 w.heap.size k nm op ev (.slice a n c)) := ⟨below_tr HB1.out.1 hb2, HB1.out.2.below hb2⟩
    clear hb2 p0 p1 p2 p3 p4
    have p0 := HB2.out.2.c0
    have p1 := HB2.out.2.c1
    have p2 := HB2.out.2.c2
    have p3 := HB2.out.2.c3
    have p4 := HB2.out.2.c4
    cases fB with
    | false =>
      go_wp2_with fail
      go_ret
      exact ⟨by rw [hD.out]; rfl, HB2.out.1⟩
    | true =>
      go_wp2_with fail
      refine (HA.out w2 (HH.out.below HB2.out.1)).mono ?_
      rintro e w4 ⟨rfl, hb4⟩
      replace hb4 := Lib.hid (below_tr HB2.out.1 hb4)
      clear p0 p1 p2 p3 p4
      by_cases h16 : 16 < N
      · go_wp2_with fail
        go_ret
        exact ⟨by rw [hD.out, if_neg (by simp), if_pos h16]; rfl, hb4.out⟩
      · go_wp2_with fail
        go_ret
        exact ⟨by rw [hD.out, if_neg (by simp), if_neg (by omega)]; rfl, hb4.out⟩
end Go.Proofs.YtjcefgjgjhdbpaaGreatDoor
