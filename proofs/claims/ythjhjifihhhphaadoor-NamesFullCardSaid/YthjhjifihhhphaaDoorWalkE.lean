/-
  Relate of the program's table of names, where nothing is added. Helper text; the conditions are those typed.
-/
import Derived.Test.YthjhjifihhhphaaDoorWalkD
namespace Go.Proofs.YthjhjifihhhphaaDoor
set_option linter.unusedVariables false
set_option linter.unusedSimpArgs false
open Go.RowKit Go.Maps

set_option maxHeartbeats 400000 in
set_option maxRecDepth 100000 in
/-- Relate at two names and a comparison, where nothing is added. -/
theorem rel_old {b : Nat} {t : Tab} {S : Nat → Prop} {w : World} (h : TabAt w b t S) (x op y : Int) (hkx : t.known x = true) (hky : t.known y = true) (h1 : 1 ≤ op) (h7 : op ≤ 7) (c : Int) (er : Int)
    (hc : (pos t.rels (x, op, y) = some c.toNat ∧ 0 ≤ c ∧ er = 0) ∨ (pos t.rels (x, op, y) = none ∧ 5000 ≤ t.rels.length ∧ c = 0 ∧ er = 20)) :
    Calls Tryd.prog 9 #[.pointer (some ⟨b, 0, none⟩), .int .i64 x, .int .i64 op, .int .i64 y] w fun e w' => e = .returned (.tuple #[.int .i64 c, .int .i64 er]) ∧ Chg (fun _ => False) w w' := by
  have hx := Lib.hid (hkx ▸ known_in h x)
  have hy := Lib.hid (hky ▸ known_in h y)
  obtain ⟨bx0, bx1⟩ := Tab.known_iff.1 hkx
  obtain ⟨by0, by1⟩ := Tab.known_iff.1 hky
  have hmany := h.ok.many
  obtain ⟨nv, lv, mi, mp, h⟩ := h
  have hkey := keyRel (a := x) (b := op) (c := y) (wf_of (by omega)) (wf_of (by omega)) (wf_of (by omega))
  have hlt := h.slt mp h.sp
  have hbl := h.slt b h.sb
  have hrun : ∀ n, (Instr.lookup 33 (.map (some mp)) (.agg #[.int .i64 x, .int .i64 op, .int .i64 y]) true).run Tryd.prog ((w.alloc (.cells #[.int .i64 x, .int .i64 op, .int .i64 y] 40)).drewN n) =
      .ok (.tuple #[.int .i64 ((relF t.rels (.agg #[.int .i64 x, .int .i64 op, .int .i64 y])).getD 0), .bool (relF t.rels (.agg #[.int .i64 x, .int .i64 op, .int .i64 y])).isSome]) ((w.alloc (.cells #[.int .i64 x, .int .i64 op, .int .i64 y] 40)).drewN n) := by
    intro n
    have hm : MapIs Tryd.prog 40 3 ((w.alloc (.cells #[.int .i64 x, .int .i64 op, .int .i64 y] 40)).drewN n) mp t.rels.length (relF t.rels) := h.places.block (by
      show (w.alloc _).heap[mp]? = _
      exact Below.heap_alloc _ _ _ hlt)
    exact hm.run_look lawRel Tryd.underlying33 Tryd.underlying3 (zero3 _) hkey
  have c3 := cell_of_blk h.blk 3 rfl
  obtain ⟨a, cc, rfl⟩ := row_slice h.lrow
  have c2 := cell_of_blk h.blk 2 rfl
  have hr0 : relF t.rels (.agg #[.int .i64 x, .int .i64 op, .int .i64 y]) = (pos t.rels (x, op, y)).map (fun n : Nat => (n : Int)) := rfl
  rw [hr0] at hrun
  clear hr0 h hkx hky
  rcases hc with ⟨hp, hc0, rfl⟩ | ⟨hp, hfull, rfl, rfl⟩
  · obtain ⟨k, rfl⟩ := Int.eq_ofNat_of_zero_le hc0
    have hp' : pos t.rels (x, op, y) = some k := by simpa using hp
    rw [hp'] at hrun
    simp only [Option.map_some, Option.getD_some, Option.isSome_some] at hrun
    clear hp hp'
    go_enter Tryd.func9, Tryd.ntmps9
    go_wp2_with fail
    refine hx.out.mono ?_; rintro e w' ⟨rfl, rfl⟩
    go_wp2_with fail
    refine hy.out.mono ?_; rintro e w' ⟨rfl, rfl⟩
    go_wp2
    go_quiet (fail)
    go_wp2
    go_ret2
    exact ⟨rfl, ((Chg.refl _ _).alloc _).drewN _⟩
  · rw [hp] at hrun
    simp only [Option.map_none, Option.getD_none, Option.isSome_none] at hrun
    have hfull' : (5000 : Int) ≤ (t.rels.length : Int) := by omega
    clear hp
    go_enter Tryd.func9, Tryd.ntmps9
    go_wp2_with fail
    refine hx.out.mono ?_; rintro e w' ⟨rfl, rfl⟩
    go_wp2_with fail
    refine hy.out.mono ?_; rintro e w' ⟨rfl, rfl⟩
    go_wp2
    go_quiet (fail)
    go_wp2
    go_ret2
    exact ⟨rfl, ((Chg.refl _ _).alloc _).drewN _⟩

end Go.Proofs.YthjhjifihhhphaaDoor
