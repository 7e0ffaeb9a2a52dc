/-
  The walk of NamesPlays. Helper text; the conditions are those typed.
-/
import Derived.Test.YthjhjifihhhphaaWalkJ
import Derived.Deep.Slices
namespace Go.Proofs.Ythjhjifihhhphaa
set_option linter.unusedVariables false
set_option linter.unusedSimpArgs false
open Go.RowKit Go.Maps

/-- The cells of a call that came in. -/
def OpAt (w : World) (b o : Nat) (kind : Int) (s : ByteArray) (x y z : Int) : Prop :=
  s.size ≤ maxLen ∧ w.cell? ⟨b, o, none⟩ = some (.int .i64 kind) ∧ w.cell? ⟨b, o + 1, none⟩ = some (.string s) ∧ w.cell? ⟨b, o + 2, none⟩ = some (.int .i64 x) ∧ w.cell? ⟨b, o + 3, none⟩ = some (.int .i64 y) ∧ w.cell? ⟨b, o + 4, none⟩ = some (.int .i64 z)

/-- n calls that came in. -/
def OpsIn (w : World) (a : Option Addr) (n : Nat) : Prop :=
  n = 0 ∨ ∃ b off, a = some ⟨b, off, none⟩ ∧ b < w.heap.size ∧ ∀ i, i < n → ∃ kind s x y z, OpAt w b (off + i * 5) kind s x y z

theorem OpAt.chg {w w' : World} {b o : Nat} {kind : Int} {s : ByteArray} {x y z : Int} (h : OpAt w b o kind s x y z) (hc : Chg (fun _ => False) w w') : OpAt w' b o kind s x y z := by
  obtain ⟨h0, h1, h2, h3, h4, h5⟩ := h
  exact ⟨h0, cell_chg hc (fun h => h) h1, cell_chg hc (fun h => h) h2, cell_chg hc (fun h => h) h3, cell_chg hc (fun h => h) h4, cell_chg hc (fun h => h) h5⟩

theorem co45 : Try.prog.cellsOf 45 = 5 := by kernel_rfl

theorem opsIn_of {H : Type} {enc : TypeId × Value → H} {w : World} {base : Nat} {sp : Nat → Bool} {held : Bool} {a : Option Addr} {len cap : Nat} {d : DataW H} {p : List MemPlace}
    (h : DataW.Trod enc Try.prog w base sp held 40 (.slice a len cap) d p) : OpsIn w a len := by
  obtain ⟨fuel, hf⟩ := h
  rcases Go.Deep.open_slice Try.underlying40 hf with ⟨hcs, _⟩ | ⟨x, l, c, m, n, D, Pl, hcs, _, hl, _, hm, _, hx⟩
  · simp [Value.cells] at hcs
    obtain ⟨rfl, rfl, rfl⟩ := hcs
    exact .inl rfl
  · simp [Value.cells] at hcs
    obtain ⟨rfl, rfl, rfl⟩ := hcs
    have hlm : len ≤ m := by rw [hm]; split <;> omega
    rw [co45] at hx
    by_cases h0 : len = 0
    · exact .inl h0
    right
    obtain ⟨b, off, spot⟩ := x
    have key : ∀ i, i < len → ∃ kind s x y z, s.size ≤ maxLen ∧ w.cell? (((⟨b, off, spot⟩ : Addr).add (i * 5)).add 0) = some (.int .i64 kind) ∧ w.cell? (((⟨b, off, spot⟩ : Addr).add (i * 5)).add 1) = some (.string s) ∧ w.cell? (((⟨b, off, spot⟩ : Addr).add (i * 5)).add 2) = some (.int .i64 x) ∧ w.cell? (((⟨b, off, spot⟩ : Addr).add (i * 5)).add 3) = some (.int .i64 y) ∧ w.cell? (((⟨b, off, spot⟩ : Addr).add (i * 5)).add 4) = some (.int .i64 z) := by
      intro i hi
      obtain ⟨cs, h1, h2⟩ := hx i (by omega)
      obtain ⟨_, hlen, hc⟩ := World.cells?_some h1
      obtain ⟨xs, n', rfl, _, _, hxl, hfs⟩ := DataW.trod_struct Try.underlying45 h2
      match cs, hlen with
      | [v0, v1, v2, v3, v4], _ =>
        have c3 : Try.prog.cellsOf 3 = 1 := co3
        have c9 : Try.prog.cellsOf 9 = 1 := by kernel_rfl
        have f0 : DataW.trod enc Try.prog w base sp held n' 3 (([v0, v1, v2, v3, v4].drop 0).take (Try.prog.cellsOf 3)) = xs[0]? := hfs 0 _ rfl
        have f1 : DataW.trod enc Try.prog w base sp held n' 9 (([v0, v1, v2, v3, v4].drop 1).take (Try.prog.cellsOf 9)) = xs[1]? := hfs 1 _ rfl
        have f2 : DataW.trod enc Try.prog w base sp held n' 3 (([v0, v1, v2, v3, v4].drop 2).take (Try.prog.cellsOf 3)) = xs[2]? := hfs 2 _ rfl
        have f3 : DataW.trod enc Try.prog w base sp held n' 3 (([v0, v1, v2, v3, v4].drop 3).take (Try.prog.cellsOf 3)) = xs[3]? := hfs 3 _ rfl
        have f4 : DataW.trod enc Try.prog w base sp held n' 3 (([v0, v1, v2, v3, v4].drop 4).take (Try.prog.cellsOf 3)) = xs[4]? := hfs 4 _ rfl
        simp only [c3, c9, List.drop_zero, List.drop_succ_cons, List.take_succ_cons, List.take_zero] at f0 f1 f2 f3 f4
        have g : ∀ j, j < 5 → ∃ y, xs[j]? = some y := fun j hj => ⟨xs[j]'(by rw [hxl]; exact hj), by simp⟩
        obtain ⟨y0, e0⟩ := g 0 (by omega)
        obtain ⟨y1, e1⟩ := g 1 (by omega)
        obtain ⟨y2, e2⟩ := g 2 (by omega)
        obtain ⟨y3, e3⟩ := g 3 (by omega)
        obtain ⟨y4, e4⟩ := g 4 (by omega)
        rw [e0] at f0
        rw [e1] at f1
        rw [e2] at f2
        rw [e3] at f3
        rw [e4] at f4
        obtain ⟨k0, i0, _, _⟩ := DataW.trod_int Try.underlying3 f0
        obtain ⟨k1, i1, _, hs⟩ := DataW.trod_string Try.underlying9 f1
        obtain ⟨k2, i2, _, _⟩ := DataW.trod_int Try.underlying3 f2
        obtain ⟨k3, i3, _, _⟩ := DataW.trod_int Try.underlying3 f3
        obtain ⟨k4, i4, _, _⟩ := DataW.trod_int Try.underlying3 f4
        simp at i0 i1 i2 i3 i4
        subst i0 i1 i2 i3 i4
        exact ⟨k0, k1, k2, k3, k4, hs, hc 0 (by omega), hc 1 (by omega), hc 2 (by omega), hc 3 (by omega), hc 4 (by omega)⟩
    obtain ⟨_, _, _, _, _, _, q0, _⟩ := key 0 (by omega)
    have hspot : spot = none := by simpa [Addr.add] using World.cell?_spot q0
    subst hspot
    have hb : b < w.heap.size := by
      have := World.block_lt_of_cell? w _ q0
      simpa [Addr.add] using this
    refine ⟨b, off, rfl, hb, fun i hi => ?_⟩
    obtain ⟨k0, k1, k2, k3, k4, hs, r0, r1, r2, r3, r4⟩ := key i hi
    simp only [add_none, Nat.add_zero] at r0 r1 r2 r3 r4
    exact ⟨k0, k1, k2, k3, k4, hs, r0, r1, r2, r3, r4⟩

theorem asked_in {w0 w : World} {bt bm : Nat} {t : Tab} (h : Pair w0 bt bm t t w) (kind : Int) (s : ByteArray) (hs : s.size ≤ maxLen) (a b c : Int) :
    Calls Try.prog 16 #[.pointer (some ⟨bt, 0, none⟩), .pointer (some ⟨bm, 0, none⟩), opV kind s a b c] w (Asked w0 bt bm) := by
  by_cases h1 : kind = 1
  · subst h1; exact asked_add h s hs a b c
  by_cases h2 : kind = 2
  · subst h2; exact asked_find h s hs a b c
  by_cases h3 : kind = 3
  · subst h3; exact asked_name h s a b c
  by_cases h4 : kind = 4
  · subst h4; exact asked_rel h s a b c
  by_cases h5 : kind = 5
  · subst h5; exact asked_relation h s a b c
  exact asked_other h kind s a b c h1 h2 h3 h4 h5

theorem pair_new {w0 w w' : World} {bt bm : Nat} (h : TabOwn w0 bt Tab.new w) (hp : RefPost w (fun _ => False) bm Tab.new w') : Pair w0 bt bm Tab.new Tab.new w' := by
  obtain ⟨S, h1, h2, h3⟩ := h
  obtain ⟨S', k1, k2, k3⟩ := hp
  refine ⟨S, S', h1.chg k2 (fun _ _ h => h), k1, fun k hk hm => ?_, h2.trans k2 (fun _ _ h => h.elim), h3, fun k hk => ?_⟩
  · rcases k3 k hm with h | h
    · exact h
    · have := h1.lt k hk; omega
  · rcases k3 k hk with h | h
    · exact h.elim
    · have := h2.size; omega

set_option maxRecDepth 1000000 in
set_option maxHeartbeats 1000000 in
theorem namesPlays_walk (w : World) (a : Option Addr) (n cap : Nat) (ho : OpsIn w a n) (hl : n ≤ maxLen) :
    Calls Try.prog 6 #[.slice a n cap] w fun e w' => e = .returned (.bool true) ∧ Chg (fun _ => False) w w' := by
  unfold maxLen at hl
  have HO := Lib.hid ho
  clear ho
  go_enter Try.func6, Try.ntmps6
  go_wp2_with fail
  refine (awake_any _).mono ?_
  rintro e w1 ⟨rfl, h1⟩
  have H1 := Lib.hid h1
  clear h1
  go_wp2_with fail
  refine (new_own H1.out).mono ?_
  rintro e w2 ⟨bt, rfl, h2⟩
  have H2 := Lib.hid h2
  clear h2
  go_wp2_with fail
  refine (rnew_in w2).mono ?_
  rintro e w3 ⟨bm, rfl, h3⟩
  have H3 := Lib.hid (pair_new H2.out h3)
  clear h3
  go_wp2_with fail
  go_loopw [6] (fun i wr => ∃ (k : Nat) (t : Tab), k ≤ n ∧ i = .int .i64 k ∧ Pair w bt bm t t wr) (fun i _ => n - (intOf i).toNat)
  case atStart => exact ⟨0, _, Nat.zero_le _, rfl, H3.out⟩
  case round =>
    obtain ⟨k, t, hk, rfl, hpr⟩ := hrel
    have HP := Lib.hid hpr
    clear hpr
    by_cases hkl : k < n
    · rcases HO.out with h0 | ⟨b, off, rfl, hb, hops⟩
      · omega
      obtain ⟨kind, s, x, y, z, hop⟩ := hops k hkl
      obtain ⟨hs, c0, c1, c2, c3, c4⟩ := hop.chg HP.out.chg
      clear hop hops hb
      have hlt : (k : Int) < (n : Int) := by omega
      go_wp2_with fail
      refine (asked_in HP.out kind s hs x y z).mono ?_
      rintro e w4 ⟨rfl, t', h4⟩
      clear c0 c1 c2 c3 c4 HP
      have H4 := Lib.hid h4
      obtain ⟨S1, ht⟩ := h4.tab
      obtain ⟨S2, nv, lv, hm⟩ := h4.ref
      have q1 : Hid (∀ n, Calls Try.prog 17 #[.pointer (some ⟨bt, 0, none⟩)] (w4.drewN n) fun e w' => e = .returned (.int .i64 t'.names.length) ∧ w' = w4.drewN n) := fun n => (len_in (ht.chg ((Chg.refl (fun _ => False) _).drewN n) (fun _ _ h => h))).mono fun _ _ h => ⟨h.1, h.2.symm⟩
      have q2 : Hid (∀ n, Calls Try.prog 18 #[.pointer (some ⟨bt, 0, none⟩)] (w4.drewN n) fun e w' => e = .returned (.int .i64 t'.rels.length) ∧ w' = w4.drewN n) := fun n => (relations_in (ht.chg ((Chg.refl (fun _ => False) _).drewN n) (fun _ _ h => h))).mono fun _ _ h => ⟨h.1, h.2.symm⟩
      obtain ⟨a1, b1, rfl⟩ := row_slice hm.nrow
      obtain ⟨a2, b2, rfl⟩ := row_slice hm.lrow
      have d0 := cell_of_blk hm.blk 0 rfl
      have d1 := cell_of_blk hm.blk 1 rfl
      clear h4 ht hm
      go_wp2_with fail
      go_quiet ((first | (go_at_call 17; exact Calls.quiet_of_same (q1.out _)) | (go_at_call 18; exact Calls.quiet_of_same (q2.out _))))
      go_wp2
      go_roundw
      case rel => exact ⟨k + 1, t', by omega, by go_num, H4.out.keep ((Chg.refl _ _).drewN _)⟩
      case measure => simp [intOf]; omega
    · have hlt : ¬ (k : Int) < (n : Int) := by omega
      go_wp2
      go_ret
      exact ⟨rfl, HP.out.chg⟩
end Go.Proofs.Ythjhjifihhhphaa
