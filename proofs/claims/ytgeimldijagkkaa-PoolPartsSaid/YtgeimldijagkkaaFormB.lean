/-
  A dependency's form, of a name. Helper text; the conditions are those typed.
-/
import Derived.Test.YtgeimldijagkkaaFormA
namespace Go.Proofs.Ytgeimldijagkkaa
set_option linter.unusedVariables false
set_option linter.unusedSimpArgs false
open Go.RowKit Go.Maps

theorem evrV_ex (x : Option Parts) : ∃ a b c : ByteArray, evrV x = .agg #[.string a, .string b, .string c] := by
  cases x <;> exact ⟨_, _, _, rfl⟩

set_option maxHeartbeats 1000000 in
set_option maxRecDepth 100000 in
theorem form_name (nm : ByteArray) (op : Int) (ev : ByteArray) (hev : ev.size ≤ maxLen) (a : Option Addr) (n c : Nat) (w : World) (B : Bool) (hB : nameB nm = B) (q : Int) (hq : errOf (parse (bs ev)) = q) (res : Bool)
    (h : (B = false ∧ res = false) ∨ (B = true ∧ ((n : Int) == 0) = false ∧ res = false) ∨ (B = true ∧ ((n : Int) == 0) = true ∧ (op == 0) = true ∧ ev.toList.isEmpty = true ∧ res = true) ∨
      (B = true ∧ ((n : Int) == 0) = true ∧ (op == 0) = true ∧ ev.toList.isEmpty = false ∧ op < 1 ∧ res = false) ∨
      (B = true ∧ ((n : Int) == 0) = true ∧ (op == 0) = false ∧ op < 1 ∧ res = false) ∨ (B = true ∧ ((n : Int) == 0) = true ∧ (op == 0) = false ∧ ¬ op < 1 ∧ 7 < op ∧ res = false) ∨
      (B = true ∧ ((n : Int) == 0) = true ∧ (op == 0) = false ∧ ¬ op < 1 ∧ ¬ 7 < op ∧ (q == 0) = res)) :
    Calls Try.prog 76 #[.agg #[.int .i64 1, .string nm, .int .i64 op, .string ev, .slice a n c]] w fun e w' => e = .returned (.bool res) ∧ Below w.heap.size w w' := by
  have HN := name_c nm
  rw [hB] at HN
  replace HN := Lib.hid HN
  have HP := parse_c ev hev
  unfold ParseRes at HP
  obtain ⟨x, y, z, hv⟩ := evrV_ex (parse (bs ev))
  rw [hv, hq] at HP
  replace HP := Lib.hid HP
  clear hv hq hB hev
  obtain ⟨w1, e1⟩ : ∃ w1, w.alloc (.cells #[.int .i64 1, .string nm, .int .i64 op, .string ev, .slice a n c] 85) = w1 := ⟨_, rfl⟩
  have HB1 : Hid (Below w.heap.size w w1 ∧ Box5 w1 w.heap.size 1 nm op ev (.slice a n c)) := by
    rw [← e1]
    exact ⟨below1 _ _, .of (alloc_at _ _)⟩
  have p0 := HB1.out.2.c0
  have p1 := HB1.out.2.c1
  have p2 := HB1.out.2.c2
  have p3 := HB1.out.2.c3
  have p4 := HB1.out.2.c4
  go_enter Try.func76, Try.ntmps76
  go_wp2_with fail
  refine (HP.out w1).mono ?_
  rintro e w2 ⟨rfl, hb2⟩
  clear HP p0 p1 p2 p3 p4
  obtain ⟨w3, e3⟩ : ∃ w3, w2.alloc (.cells #[.string x, .string y, .string z] 54) = w3 := ⟨_, rfl⟩
  have HB3 : Hid (Below w.heap.size w w3 ∧ Box5 w3 w.heap.size 1 nm op ev (.slice a n c)) := by
    have h2 : Below w1.heap.size w1 w3 := below_tr hb2 (by rw [← e3]; exact below1 _ _)
    exact ⟨below_tr HB1.out.1 h2, HB1.out.2.below h2⟩
  clear hb2
  have p0 := HB3.out.2.c0
  have p1 := HB3.out.2.c1
  have p2 := HB3.out.2.c2
  have p3 := HB3.out.2.c3
  have p4 := HB3.out.2.c4
  go_wp2_with fail
  refine (HN.out w3).mono ?_
  rintro e w4 ⟨rfl, hb4⟩
  clear HN p0 p1 p2 p3 p4
  have HB4 : Hid (Below w.heap.size w w4 ∧ Box5 w4 w.heap.size 1 nm op ev (.slice a n c)) := ⟨below_tr HB3.out.1 hb4, HB3.out.2.below hb4⟩
  clear hb4 HB3 HB1 e1 e3
  have p0 := HB4.out.2.c0
  have p1 := HB4.out.2.c1
  have p2 := HB4.out.2.c2
  have p3 := HB4.out.2.c3
  have p4 := HB4.out.2.c4
  rcases h with ⟨rfl, rfl⟩ | ⟨rfl, g1, rfl⟩ | ⟨rfl, g1, g2, g3, rfl⟩ | ⟨rfl, g1, g2, g3, g4, rfl⟩ | ⟨rfl, g1, g2, g3, rfl⟩ | ⟨rfl, g1, g2, g3, g4, rfl⟩ | ⟨rfl, g1, g2, g3, g4, g5⟩
  all_goals
    go_wp2_with fail
    go_ret
    exact ⟨rfl, HB4.out.1⟩
end Go.Proofs.Ytgeimldijagkkaa
