/-
  The walk of EvrParses: it answers true. Helper text; the conditions are those typed.
-/
import Derived.Test.YtgggbjkgpjcklaaDoorRefF
namespace Go.Proofs.YtgggbjkgpjcklaaDoor
set_option linter.unusedVariables false
set_option linter.unusedSimpArgs false
open Go.RowKit

theorem parses_walk (s : ByteArray) (hs : s.size ≤ maxLen) (w : World) :
    Calls Tryd.prog 4 #[.string s] w fun en w' => en = .returned (.bool true) ∧ Below w.heap.size w w' := by
  have H0 := Lib.hid awake_c
  cases h : parse (bs s) with
  | none =>
    have H1 := Lib.hid (parse_none hs h)
    have H2 := Lib.hid (rparse_none hs h)
    clear h
    go_enter Tryd.func4, Tryd.ntmps4
    go_wp2_with fail
    refine (H0.out _).mono ?_
    rintro e w1 ⟨rfl, hb⟩
    have HB1 := Lib.hid hb
    clear hb
    go_wp2_with fail
    refine (H1.out _).mono ?_
    rintro e w2 ⟨rfl, hb⟩
    have HB2 := Lib.hid (below_tr HB1.out (below_tr hb (below1 w2 (.cells #[.string ⟨#[]⟩, .string ⟨#[]⟩, .string ⟨#[]⟩] 24))))
    have HX := Lib.hid (Box3.of (alloc_at w2 (.cells #[.string ⟨#[]⟩, .string ⟨#[]⟩, .string ⟨#[]⟩] 24)))
    clear hb HB1
    go_wp2_with fail
    refine (H2.out _).mono ?_
    rintro e w3 ⟨rfl, hb⟩
    have HB3 := Lib.hid (below_tr HB2.out (below_tr hb (below1 w3 (.cells #[.string ⟨#[]⟩, .string ⟨#[]⟩, .string ⟨#[]⟩] 24))))
    have x := HX.out.below hb
    have x' := (HX.out.below hb).below (below1 w3 (.cells #[.string ⟨#[]⟩, .string ⟨#[]⟩, .string ⟨#[]⟩] 24))
    have y := Box3.of (alloc_at w3 (.cells #[.string ⟨#[]⟩, .string ⟨#[]⟩, .string ⟨#[]⟩] 24))
    have l1 := x.lt
    clear hb HB2 HX
    obtain ⟨_, _, _, _, _, _, _⟩ := x
    obtain ⟨_, _, _, _, _, _, _⟩ := x'
    obtain ⟨_, _, _, _, _, _, _⟩ := y
    go_wp2
    go_ret
    exact ⟨rfl, HB3.out⟩
  | some x =>
    obtain ⟨e, v, r, rfl, _⟩ := parse_form h
    have H1 := Lib.hid (parse_some hs h)
    have H2 := Lib.hid (rparse_some hs h)
    clear h
    go_enter Tryd.func4, Tryd.ntmps4
    go_wp2_with fail
    refine (H0.out _).mono ?_
    rintro en w1 ⟨rfl, hb⟩
    have HB1 := Lib.hid hb
    clear hb
    go_wp2_with fail
    refine (H1.out _).mono ?_
    rintro en w2 ⟨rfl, hb⟩
    have HB2 := Lib.hid (below_tr HB1.out (below_tr hb (below1 w2 (.cells #[.string e, .string v, .string r] 24))))
    have HX := Lib.hid (Box3.of (alloc_at w2 (.cells #[.string e, .string v, .string r] 24)))
    clear hb HB1
    go_wp2_with fail
    refine (H2.out _).mono ?_
    rintro en w3 ⟨rfl, hb⟩
    have HB3 := Lib.hid (below_tr HB2.out (below_tr hb (below1 w3 (.cells #[.string e, .string v, .string r] 24))))
    have x := HX.out.below hb
    have x' := (HX.out.below hb).below (below1 w3 (.cells #[.string e, .string v, .string r] 24))
    have y := Box3.of (alloc_at w3 (.cells #[.string e, .string v, .string r] 24))
    have l1 := x.lt
    clear hb HB2 HX
    obtain ⟨_, _, _, _, _, _, _⟩ := x
    obtain ⟨_, _, _, _, _, _, _⟩ := x'
    obtain ⟨_, _, _, _, _, _, _⟩ := y
    go_wp2
    go_ret
    exact ⟨rfl, HB3.out⟩
end Go.Proofs.YtgggbjkgpjcklaaDoor
