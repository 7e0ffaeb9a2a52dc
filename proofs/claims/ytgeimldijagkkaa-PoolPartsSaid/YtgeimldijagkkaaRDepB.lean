/-
  A dependency's form by the document's answer: the walk. Helper text; the conditions are those typed.
-/
import Derived.Test.YtgeimldijagkkaaRDepA
import Derived.Test.YtgeimldijagkkaaRefF
namespace Go.Proofs.Ytgeimldijagkkaa
set_option linter.unusedVariables false
set_option linter.unusedSimpArgs false
open Go.RowKit Go.Maps

set_option maxHeartbeats 1000000 in
set_option maxRecDepth 100000 in
theorem rform_name (nm : ByteArray) (op : Int) (ev : ByteArray) (hev : ev.size ≤ maxLen) (a : Option Addr) (n c : Nat) (w : World) (B : Bool) (hB : nameB nm = B) (q : Int) (hq : errOf (parse (bs ev)) = q) (res : Bool)
    (h : (B = false ∧ res = false) ∨ (B = true ∧ op < 0 ∧ res = false) ∨ (B = true ∧ ¬ op < 0 ∧ 7 < op ∧ res = false) ∨ (B = true ∧ ¬ op < 0 ∧ ¬ 7 < op ∧ 0 < (n : Int) ∧ res = false) ∨
      (B = true ∧ ¬ op < 0 ∧ ¬ 7 < op ∧ ¬ 0 < (n : Int) ∧ (op == 0) = true ∧ ev.toList.isEmpty = true ∧ res = true) ∨
      (B = true ∧ ¬ op < 0 ∧ ¬ 7 < op ∧ ¬ 0 < (n : Int) ∧ (op == 0) = true ∧ ev.toList.isEmpty = false ∧ res = false) ∨
      (B = true ∧ ¬ op < 0 ∧ ¬ 7 < op ∧ ¬ 0 < (n : Int) ∧ (op == 0) = false ∧ (q == 0) = res)) :
    Calls Try.prog 81 #[.agg #[.int .i64 1, .string nm, .int .i64 op, .string ev, .slice a n c]] w fun e w' => e = .returned (.bool res) ∧ Below w.heap.size w w' := by
  have HN := rname_c nm
  rw [hB] at HN
  replace HN := Lib.hid HN
  have HP := rparse_c ev hev
  unfold ParseX at HP
  obtain ⟨x, y, z, hv⟩ := evrV_ex (parse (bs ev))
  rw [hv, hq] at HP
  replace HP := Lib.hid HP
  clear hv hq hB hev
  obtain ⟨w1, e1⟩ : ∃ w1, w.alloc (.cells #[.int .i64 1, .string nm, .int .i64 op, .string ev, .slice a n c] 85) = w1 := ⟨_, rfl⟩
  have HB1 : Hid (Below w.heap.size w w1 ∧ Box5 w1 w.heap.size 1 nm op ev (.slice a n c)) := by
    rw [← e1]
    exact ⟨below1 _ _, .of (alloc_at _ _)⟩
  have p0 := HB1.out.2.c0
  have p1 := HB1.out.2.c1
  have p2 := HB1.out.2.c2
  have p3 := HB1.out.2.c3
  have p4 := HB1.out.2.c4
  go_enter Try.func81, Try.ntmps81
  go_wp2_with fail
  refine (HN.out w1).mono ?_
  rintro e w2 ⟨rfl, rfl⟩
  rcases h with ⟨rfl, rfl⟩ | ⟨rfl, g1, rfl⟩ | ⟨rfl, g1, g2, rfl⟩ | ⟨rfl, g1, g2, g3, rfl⟩ | ⟨rfl, g1, g2, g3, g4, g5, rfl⟩ | ⟨rfl, g1, g2, g3, g4, g5, rfl⟩ | ⟨rfl, g1, g2, g3, g4, g5⟩
  case inr.inr.inr.inr.inr.inr =>
    go_wp2_with fail
    refine (HP.out w1).mono ?_
    rintro e w3 ⟨rfl, hb3⟩
    replace hb3 := Lib.hid (below_tr HB1.out.1 hb3)
    clear p0 p1 p2 p3 p4
    go_wp2_with fail
    go_ret
    exact ⟨by rw [← g5]; rfl, below_tr hb3.out (below1 _ _)⟩
  all_goals
    go_wp2_with fail
    go_ret
    exact ⟨by first | rfl | simp [g5, getD_at], HB1.out.1⟩
end Go.Proofs.Ytgeimldijagkkaa
