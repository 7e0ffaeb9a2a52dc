/-
  Two lists of texts are the same, by the document. Helper text; the conditions are those typed.
  Two dependencies that read alike are found alike. Helper text; the conditions are those typed.
  Two packages that read alike are found alike. Helper text; the conditions are those typed.
  Two lists of packages that read alike are found alike. Helper text; the conditions are those typed.
  Packages that stay; small words. Helper text; the conditions are those typed.
-/
import Derived.Test.YtjcefgjgjhdbpaaGreatDoorRowsX
import Derived.BigQuiet
import Derived.Test.YtjcefgjgjhdbpaaGreatDoorRdrB
import Derived.Test.YtjcefgjgjhdbpaaGreatDoorPackA
import Derived.Test.YtjcefgjgjhdbpaaGreatDoorAwake
namespace Go.Proofs.YtjcefgjgjhdbpaaGreatDoor
set_option linter.unusedVariables false
set_option linter.unusedSimpArgs false
open Go.RowKit Go.Maps

set_option maxHeartbeats 1000000 in
/-- SameTexts. -/
theorem sameT_eq (l : List ByteArray) (v1 v2 : Value) (S1 S2 : Nat → Prop) (w : World) (h1 : StrsV w S1 l v1) (h2 : StrsV w S2 l v2) :
    Calls Tryz.prog 60 #[v1, v2] w fun e w' => e = .returned (.bool true) ∧ Below w.heap.size w w' := by
  obtain ⟨a1, c1, rfl, _, hl, i1⟩ := h1
  obtain ⟨a2, c2, rfl, _, _, i2⟩ := h2
  obtain ⟨n, hn⟩ : ∃ n, l.length = n := ⟨_, rfl⟩
  have H1 := Lib.hid i1
  have H2 := Lib.hid i2
  have HN := Lib.hid hn
  rw [hn] at hl ⊢
  clear i1 i2 hn
  go_enter Tryz.func60, Tryz.ntmps60
  go_wp2_with fail
  go_loopw [5] (fun vi wr => ∃ i : Nat, vi = .int .i64 i ∧ i ≤ n ∧ Hid (Below w.heap.size w wr)) (fun vi _ => n - (intOf vi).toNat)
  case atStart => exact ⟨0, rfl, Nat.zero_le _, Below.refl _ _⟩
  case round =>
    obtain ⟨i, rfl, hin, HB⟩ := hrel
    by_cases hlt : i < n
    · have hi1 : (i : Int) < (n : Int) := by omega
      have hil : i < l.length := by have := HN.out; omega
      have hne : l ≠ [] := by intro e; rw [e] at hil; exact absurd hil (Nat.not_lt_zero _)
      obtain ⟨b1, o1, rfl, _, k1⟩ := H1.out hne
      obtain ⟨b2, o2, rfl, _, k2⟩ := H2.out hne
      have q1 := cell_tr HB.out (k1 i hil)
      have q2 := cell_tr HB.out (k2 i hil)
      generalize l[i] = x at q1 q2
      clear k1 k2 hne
      go_wp2_with fail
      go_quiet (fail)
      go_wp2_with fail
      go_roundw
      case rel => exact ⟨i + 1, by go_num, by omega, below_drewN HB.out nq⟩
      case measure => simp [intOf]; omega
    · have hi1 : ¬ (i : Int) < (n : Int) := by omega
      go_wp2_with fail
      go_ret
      exact ⟨rfl, HB.out⟩
end Go.Proofs.YtjcefgjgjhdbpaaGreatDoor
namespace Go.Proofs.YtjcefgjgjhdbpaaGreatDoor
set_option linter.unusedVariables false
set_option linter.unusedSimpArgs false
open Go.RowKit Go.Maps

set_option maxHeartbeats 4000000 in
set_option maxRecDepth 100000 in
theorem rsame_c0 (k : Int) (nm : ByteArray) (op : Int) (ev : ByteArray) (n : Nat) (args : Fin n → DepT)
    (ih : ∀ i : Fin n, ∀ (cs1 cs2 : List Value) (S1 S2 : Nat → Prop) (w : World), DepC w S1 (args i) cs1 → DepC w S2 (args i) cs2 → Calls Tryz.prog 94 #[.agg cs1.toArray, .agg cs2.toArray] w fun e w' => e = .returned (.bool true) ∧ Below w.heap.size w w') :
    ∀ (cs1 cs2 : List Value) (S1 S2 : Nat → Prop) (w : World), DepC w S1 (.mk k nm op ev n args) cs1 → DepC w S2 (.mk k nm op ev n args) cs2 → Calls Tryz.prog 94 #[.agg cs1.toArray, .agg cs2.toArray] w fun e w' => e = .returned (.bool true) ∧ Below w.heap.size w w' := by
  intro cs1 cs2 S1 S2 w h1 h2
  obtain ⟨a1, c1, rfl, _, _, _, hn, i1⟩ := h1
  obtain ⟨a2, c2, rfl, _, _, _, _, i2⟩ := h2
  have H1 := Lib.hid i1
  have H2 := Lib.hid i2
  have IH := Lib.hid ih
  clear i1 i2 ih
  obtain ⟨w2, e2⟩ : ∃ w2, (w.alloc (.cells #[.int .i64 k, .string nm, .int .i64 op, .string ev, .slice a1 n c1] 73)).alloc (.cells #[.int .i64 k, .string nm, .int .i64 op, .string ev, .slice a2 n c2] 73) = w2 := ⟨_, rfl⟩
  have HB2 : Hid (Below w.heap.size w w2 ∧ BoxN w2 w.heap.size [.int .i64 k, .string nm, .int .i64 op, .string ev, .slice a1 n c1] 73 ∧ BoxN w2 (w.heap.size + 1) [.int .i64 k, .string nm, .int .i64 op, .string ev, .slice a2 n c2] 73) := by
    rw [← e2]
    refine ⟨below2 _ _ _, (boxN_alloc w [.int .i64 k, .string nm, .int .i64 op, .string ev, .slice a1 n c1] 73).below (below1 _ _), ?_⟩
    have h1 := boxN_alloc (w.alloc (.cells #[.int .i64 k, .string nm, .int .i64 op, .string ev, .slice a1 n c1] 73)) [.int .i64 k, .string nm, .int .i64 op, .string ev, .slice a2 n c2] 73
    rw [World.size_alloc] at h1
    exact h1
  have p0 := HB2.out.2.1.cell (j := 0) rfl
  have p1 := HB2.out.2.1.cell (j := 1) rfl
  have p2 := HB2.out.2.1.cell (j := 2) rfl
  have p3 := HB2.out.2.1.cell (j := 3) rfl
  have p4 := HB2.out.2.1.cell (j := 4) rfl
  have q0 := HB2.out.2.2.cell (j := 0) rfl
  have q1 := HB2.out.2.2.cell (j := 1) rfl
  have q2 := HB2.out.2.2.cell (j := 2) rfl
  have q3 := HB2.out.2.2.cell (j := 3) rfl
  have q4 := HB2.out.2.2.cell (j := 4) rfl
  go_enter Tryz.func94, Tryz.ntmps94
  go_wp2_with fail
  clear e2 p0 p1 p2 p3 p4 q0 q1 q2 q3 q4
  go_loopw [5] (fun vi wr => ∃ i : Nat, vi = .int .i64 i ∧ i ≤ n ∧ Hid (Below w.heap.size w wr ∧ BoxN wr w.heap.size [.int .i64 k, .string nm, .int .i64 op, .string ev, .slice a1 n c1] 73 ∧ BoxN wr (w.heap.size + 1) [.int .i64 k, .string nm, .int .i64 op, .string ev, .slice a2 n c2] 73)) (fun vi _ => n - (intOf vi).toNat)
  case atStart => exact ⟨0, rfl, Nat.zero_le _, HB2.out⟩
  case round =>
    clear HB2
    obtain ⟨i, rfl, hin, HT⟩ := hrel
    have p4 := HT.out.2.1.cell (j := 4) rfl
    by_cases hlt : i < n
    · have hi1 : (i : Int) < (n : Int) := by omega
      obtain ⟨b1, o1, rfl, _, k1⟩ := H1.out (by omega)
      obtain ⟨b2, o2, rfl, _, k2⟩ := H2.out (by omega)
      obtain ⟨cs1, d1, g1⟩ := k1 ⟨i, hlt⟩
      obtain ⟨cs2, d2, g2⟩ := k2 ⟨i, hlt⟩
      have hIH := IH.out ⟨i, hlt⟩
      obtain ⟨x0, x1, x2, x3, xa, xn, xc, rfl⟩ := d1.shape
      obtain ⟨y0, y1, y2, y3, ya, yn, yc, rfl⟩ := d2.shape
      have HC : Hid (∀ W : World, Below w.heap.size w W → Calls Tryz.prog 94 #[.agg #[.int .i64 x0, .string x1, .int .i64 x2, .string x3, .slice xa xn xc], .agg #[.int .i64 y0, .string y1, .int .i64 y2, .string y3, .slice ya yn yc]] W fun e w' => e = .returned (.bool true) ∧ Below W.heap.size W w') := fun W hb => hIH _ _ S1 S2 W (d1.below hb) (d2.below hb)
      have HL1 : Hid (b1 < w.heap.size ∧ b2 < w.heap.size) := ⟨World.block_lt_of_cell? w _ (g1 0 _ rfl), World.block_lt_of_cell? w _ (g2 0 _ rfl)⟩
      have HG1 : Hid (∀ W : World, W.heap[b1]? = w.heap[b1]? → CellsAt W b1 (o1 + i * 5) [.int .i64 x0, .string x1, .int .i64 x2, .string x3, .slice xa xn xc]) := fun W hW => g1.keep hW
      have HG2 : Hid (∀ W : World, W.heap[b2]? = w.heap[b2]? → CellsAt W b2 (o2 + i * 5) [.int .i64 y0, .string y1, .int .i64 y2, .string y3, .slice ya yn yc]) := fun W hW => g2.keep hW
      have HA : Hid (∀ W : World, W.heap[w.heap.size]? = wr.heap[w.heap.size]? → W.heap[w.heap.size + 1]? = wr.heap[w.heap.size + 1]? → W.heap[b1]? = w.heap[b1]? → W.heap[b2]? = w.heap[b2]? →
          W.cell? ⟨w.heap.size, 4, none⟩ = some (.slice (some ⟨b1, o1, none⟩) n c1) ∧ W.cell? ⟨w.heap.size + 1, 4, none⟩ = some (.slice (some ⟨b2, o2, none⟩) n c2) ∧
          (W.cell? ⟨b1, o1 + i * 5, none⟩ = some (.int .i64 x0) ∧ W.cell? ⟨b1, o1 + i * 5 + 1, none⟩ = some (.string x1) ∧ W.cell? ⟨b1, o1 + i * 5 + 2, none⟩ = some (.int .i64 x2) ∧ W.cell? ⟨b1, o1 + i * 5 + 3, none⟩ = some (.string x3) ∧ W.cell? ⟨b1, o1 + i * 5 + 4, none⟩ = some (.slice xa xn xc)) ∧
          (W.cell? ⟨b2, o2 + i * 5, none⟩ = some (.int .i64 y0) ∧ W.cell? ⟨b2, o2 + i * 5 + 1, none⟩ = some (.string y1) ∧ W.cell? ⟨b2, o2 + i * 5 + 2, none⟩ = some (.int .i64 y2) ∧ W.cell? ⟨b2, o2 + i * 5 + 3, none⟩ = some (.string y3) ∧ W.cell? ⟨b2, o2 + i * 5 + 4, none⟩ = some (.slice ya yn yc))) := by
        intro W e1 e2 e3 e4
        have k1 := HG1.out W e3
        have k2 := HG2.out W e4
        exact ⟨(HT.out.2.1.to e1).cell (j := 4) rfl, (HT.out.2.2.to e2).cell (j := 4) rfl, ⟨k1 0 _ rfl, k1 1 _ rfl, k1 2 _ rfl, k1 3 _ rfl, k1 4 _ rfl⟩, ⟨k2 0 _ rfl, k2 1 _ rfl, k2 2 _ rfl, k2 3 _ rfl, k2 4 _ rfl⟩⟩
      have HSZ : Hid (w.heap.size < wr.heap.size ∧ w.heap.size + 1 < wr.heap.size) := ⟨HT.out.2.1.lt, HT.out.2.2.lt⟩
      clear k1 k2 d1 d2 g1 g2 hIH
      go_upto_region 6 with fail
      refine wp_region_ord (fun W => W.heap[w.heap.size]? = wr.heap[w.heap.size]? ∧ W.heap[w.heap.size + 1]? = wr.heap[w.heap.size + 1]? ∧ W.heap[b1]? = w.heap[b1]? ∧ W.heap[b2]? = w.heap[b2]?) 11 [(true, 0), (true, 1), (true, 2), (true, 3), (true, 4), (true, 5), (true, 6), (true, 7), (true, 8), (true, 9), (false, 10), (false, 11)] (by kernel_rfl) (by kernel_rfl) (fun _ _ d _ _ h => by cases d <;> exact h) ⟨rfl, rfl, HT.out.1.block b1 HL1.out.1, HT.out.1.block b2 HL1.out.2⟩ ?_
      intro wd hwd hS
      simp only [ordOps, List.map_cons, List.map_nil, Array.getD_eq_getD_getElem?, List.getElem?_toArray, List.getElem?_cons_succ, List.getElem?_cons_zero, Option.getD_some]
      iterate 10 (refine wpOrd_q rfl _ (fun w' hS' K hK => (by obtain ⟨q1, q2, ⟨t0, t1, t2, t3, t4⟩, ⟨s0, s1, s2, s3, s4⟩⟩ := HA.out w' hS'.1 hS'.2.1 hS'.2.2.1 hS'.2.2.2; clear hS'; go_simp; exact hK)) (fun K hK => ?_); go_simp; refine hK _ ?_; clear hK K)
      have HBd : Hid (Below wr.heap.size wr wd) := by rw [hwd.out]; exact below_dr1 (Below.refl _ _)
      refine wpOrd_l rfl (fun K hK => ?_)
      go_simp
      refine (HC.out wd (below_tr HT.out.1 HBd.out)).mono ?_
      rintro e w4 ⟨rfl, hb4⟩
      have HB4 : Hid (Below wr.heap.size wr w4) := below_tr HBd.out hb4
      go_simp
      refine hK _ _ ⟨fun _ => ⟨HB4.out.block _ HSZ.out.1, HB4.out.block _ HSZ.out.2, (HB4.out.block _ (Nat.lt_of_lt_of_le HL1.out.1 HT.out.1.size)).trans (HT.out.1.block b1 HL1.out.1), (HB4.out.block _ (Nat.lt_of_lt_of_le HL1.out.2 HT.out.1.size)).trans (HT.out.1.block b2 HL1.out.2)⟩, ?_⟩
      clear hK K hb4
      refine wpOrd_l rfl (fun K hK => ?_)
      go_simp
      refine hK _ _ ⟨fun h => absurd rfl h, ?_⟩
      clear hK K
      refine wpOrd_nil ?_
      have HN : Hid (Below w.heap.size w w4 ∧ BoxN w4 w.heap.size [.int .i64 k, .string nm, .int .i64 op, .string ev, .slice (some ⟨b1, o1, none⟩) n c1] 73 ∧ BoxN w4 (w.heap.size + 1) [.int .i64 k, .string nm, .int .i64 op, .string ev, .slice (some ⟨b2, o2, none⟩) n c2] 73) := ⟨below_tr HT.out.1 HB4.out, HT.out.2.1.below HB4.out, HT.out.2.2.below HB4.out⟩
      clear hS hwd p4
      go_wp2_with fail
      go_roundw
      case rel => exact ⟨i + 1, by go_num, by omega, HN.out⟩
      case measure => simp [intOf]; omega
    · have hi1 : ¬ (i : Int) < (n : Int) := by omega
      go_wp2_with fail
      go_ret
      exact ⟨rfl, HT.out.1⟩
/-- ref05.Same. -/
theorem rsame_eq : ∀ (d : DepT) (cs1 cs2 : List Value) (S1 S2 : Nat → Prop) (w : World), DepC w S1 d cs1 → DepC w S2 d cs2 → Calls Tryz.prog 94 #[.agg cs1.toArray, .agg cs2.toArray] w fun e w' => e = .returned (.bool true) ∧ Below w.heap.size w w' := by
  intro d
  induction d with
  | mk k nm op ev n args ih => exact rsame_c0 k nm op ev n args ih
set_option maxHeartbeats 1000000 in
/-- SameList. -/
theorem rsameList_eq (n : Nat) (args : Fin n → DepT) (v1 v2 : Value) (S1 S2 : Nat → Prop) (w : World) (h1 : DepsV w S1 n args v1) (h2 : DepsV w S2 n args v2) :
    Calls Tryz.prog 59 #[v1, v2] w fun e w' => e = .returned (.bool true) ∧ Below w.heap.size w w' := by
  have HC := Lib.hid (rsame_eq (.mk 0 ⟨#[]⟩ 0 ⟨#[]⟩ n args) [.int .i64 0, .string ⟨#[]⟩, .int .i64 0, .string ⟨#[]⟩, v1] [.int .i64 0, .string ⟨#[]⟩, .int .i64 0, .string ⟨#[]⟩, v2] S1 S2 w (depC_iff.2 ⟨v1, rfl, by decide, by decide, by decide, h1⟩) (depC_iff.2 ⟨v2, rfl, by decide, by decide, by decide, h2⟩))
  obtain ⟨a1, c1, rfl, _⟩ := h1
  obtain ⟨a2, c2, rfl, _⟩ := h2
  go_enter Tryz.func59, Tryz.ntmps59
  go_wp2_with fail
  refine HC.out.mono ?_
  rintro e w2 ⟨rfl, hb⟩
  go_wp2_with fail
  go_ret
  exact ⟨rfl, hb⟩
end Go.Proofs.YtjcefgjgjhdbpaaGreatDoor
namespace Go.Proofs.YtjcefgjgjhdbpaaGreatDoor
set_option linter.unusedVariables false
set_option linter.unusedSimpArgs false
open Go.RowKit Go.Maps

set_option maxHeartbeats 4000000 in
set_option maxRecDepth 100000 in
/-- SamePackage. -/
theorem samePkg_eq (p : PkgT) (a1 : Fin 7 → Option Addr) (c1 : Fin 7 → Nat) (f1 : Option Addr) (nf1 g1 : Nat) (a2 : Fin 7 → Option Addr) (c2 : Fin 7 → Nat) (f2 : Option Addr) (nf2 g2 : Nat) (S1 S2 : Nat → Prop) (w : World)
    (h1 : PkgV w S1 p (fun i => .slice (a1 i) (p.n i) (c1 i)) (.slice f1 nf1 g1)) (h2 : PkgV w S2 p (fun i => .slice (a2 i) (p.n i) (c2 i)) (.slice f2 nf2 g2)) :
    Calls Tryz.prog 27 #[.agg #[.string p.name, .string p.evr, .string p.arch, .string p.vendor, .slice (a1 0) (p.n 0) (c1 0), .slice (a1 1) (p.n 1) (c1 1), .slice (a1 2) (p.n 2) (c1 2), .slice (a1 3) (p.n 3) (c1 3), .slice (a1 4) (p.n 4) (c1 4), .slice (a1 5) (p.n 5) (c1 5), .slice (a1 6) (p.n 6) (c1 6), .slice f1 nf1 g1], .agg #[.string p.name, .string p.evr, .string p.arch, .string p.vendor, .slice (a2 0) (p.n 0) (c2 0), .slice (a2 1) (p.n 1) (c2 1), .slice (a2 2) (p.n 2) (c2 2), .slice (a2 3) (p.n 3) (c2 3), .slice (a2 4) (p.n 4) (c2 4), .slice (a2 5) (p.n 5) (c2 5), .slice (a2 6) (p.n 6) (c2 6), .slice f2 nf2 g2]] w fun e w' => e = .returned (.bool true) ∧ Below w.heap.size w w' := by
  obtain ⟨w2, e2⟩ : ∃ w2, (w.alloc (.cells #[.string p.name, .string p.evr, .string p.arch, .string p.vendor, .slice (a1 0) (p.n 0) (c1 0), .slice (a1 1) (p.n 1) (c1 1), .slice (a1 2) (p.n 2) (c1 2), .slice (a1 3) (p.n 3) (c1 3), .slice (a1 4) (p.n 4) (c1 4), .slice (a1 5) (p.n 5) (c1 5), .slice (a1 6) (p.n 6) (c1 6), .slice f1 nf1 g1] 36)).alloc (.cells #[.string p.name, .string p.evr, .string p.arch, .string p.vendor, .slice (a2 0) (p.n 0) (c2 0), .slice (a2 1) (p.n 1) (c2 1), .slice (a2 2) (p.n 2) (c2 2), .slice (a2 3) (p.n 3) (c2 3), .slice (a2 4) (p.n 4) (c2 4), .slice (a2 5) (p.n 5) (c2 5), .slice (a2 6) (p.n 6) (c2 6), .slice f2 nf2 g2] 36) = w2 := ⟨_, rfl⟩
  have HB2 : Hid (Below w.heap.size w w2 ∧ BoxN w2 w.heap.size [.string p.name, .string p.evr, .string p.arch, .string p.vendor, .slice (a1 0) (p.n 0) (c1 0), .slice (a1 1) (p.n 1) (c1 1), .slice (a1 2) (p.n 2) (c1 2), .slice (a1 3) (p.n 3) (c1 3), .slice (a1 4) (p.n 4) (c1 4), .slice (a1 5) (p.n 5) (c1 5), .slice (a1 6) (p.n 6) (c1 6), .slice f1 nf1 g1] 36 ∧ BoxN w2 (w.heap.size + 1) [.string p.name, .string p.evr, .string p.arch, .string p.vendor, .slice (a2 0) (p.n 0) (c2 0), .slice (a2 1) (p.n 1) (c2 1), .slice (a2 2) (p.n 2) (c2 2), .slice (a2 3) (p.n 3) (c2 3), .slice (a2 4) (p.n 4) (c2 4), .slice (a2 5) (p.n 5) (c2 5), .slice (a2 6) (p.n 6) (c2 6), .slice f2 nf2 g2] 36) := by
    rw [← e2]
    refine ⟨below2 _ _ _, (boxN_alloc w [.string p.name, .string p.evr, .string p.arch, .string p.vendor, .slice (a1 0) (p.n 0) (c1 0), .slice (a1 1) (p.n 1) (c1 1), .slice (a1 2) (p.n 2) (c1 2), .slice (a1 3) (p.n 3) (c1 3), .slice (a1 4) (p.n 4) (c1 4), .slice (a1 5) (p.n 5) (c1 5), .slice (a1 6) (p.n 6) (c1 6), .slice f1 nf1 g1] 36).below (below1 _ _), ?_⟩
    have h1 := boxN_alloc (w.alloc (.cells #[.string p.name, .string p.evr, .string p.arch, .string p.vendor, .slice (a1 0) (p.n 0) (c1 0), .slice (a1 1) (p.n 1) (c1 1), .slice (a1 2) (p.n 2) (c1 2), .slice (a1 3) (p.n 3) (c1 3), .slice (a1 4) (p.n 4) (c1 4), .slice (a1 5) (p.n 5) (c1 5), .slice (a1 6) (p.n 6) (c1 6), .slice f1 nf1 g1] 36)) [.string p.name, .string p.evr, .string p.arch, .string p.vendor, .slice (a2 0) (p.n 0) (c2 0), .slice (a2 1) (p.n 1) (c2 1), .slice (a2 2) (p.n 2) (c2 2), .slice (a2 3) (p.n 3) (c2 3), .slice (a2 4) (p.n 4) (c2 4), .slice (a2 5) (p.n 5) (c2 5), .slice (a2 6) (p.n 6) (c2 6), .slice f2 nf2 g2] 36
    rw [World.size_alloc] at h1
    exact h1
  have H1 := Lib.hid h1
  have H2 := Lib.hid h2
  clear h1 h2
  have p0 := HB2.out.2.1.cell (j := 0) rfl
  have p1 := HB2.out.2.1.cell (j := 1) rfl
  have p2 := HB2.out.2.1.cell (j := 2) rfl
  have p3 := HB2.out.2.1.cell (j := 3) rfl
  have p4 := HB2.out.2.1.cell (j := 4) rfl
  have p5 := HB2.out.2.1.cell (j := 5) rfl
  have p6 := HB2.out.2.1.cell (j := 6) rfl
  have p7 := HB2.out.2.1.cell (j := 7) rfl
  have p8 := HB2.out.2.1.cell (j := 8) rfl
  have p9 := HB2.out.2.1.cell (j := 9) rfl
  have p10 := HB2.out.2.1.cell (j := 10) rfl
  have p11 := HB2.out.2.1.cell (j := 11) rfl
  go_enter Tryz.func27, Tryz.ntmps27
  go_wp2_with fail
  refine (rlists_c p.name p.evr p.arch p.vendor a1 p.n c1 f1 nf1 g1 w2).mono ?_
  rintro e w3 ⟨l1, rfl, hl1, hb3, hx3⟩
  have HB3 : Hid (Below w2.heap.size w2 w3) := hb3
  have HX3 : Hid (BoxN w3 l1 (listsL fun i => .slice (a1 i) (p.n i) (c1 i)) 33) := hx3
  have HD3 : Hid (BoxN w3 w.heap.size [.string p.name, .string p.evr, .string p.arch, .string p.vendor, .slice (a1 0) (p.n 0) (c1 0), .slice (a1 1) (p.n 1) (c1 1), .slice (a1 2) (p.n 2) (c1 2), .slice (a1 3) (p.n 3) (c1 3), .slice (a1 4) (p.n 4) (c1 4), .slice (a1 5) (p.n 5) (c1 5), .slice (a1 6) (p.n 6) (c1 6), .slice f1 nf1 g1] 36 ∧ BoxN w3 (w.heap.size + 1) [.string p.name, .string p.evr, .string p.arch, .string p.vendor, .slice (a2 0) (p.n 0) (c2 0), .slice (a2 1) (p.n 1) (c2 1), .slice (a2 2) (p.n 2) (c2 2), .slice (a2 3) (p.n 3) (c2 3), .slice (a2 4) (p.n 4) (c2 4), .slice (a2 5) (p.n 5) (c2 5), .slice (a2 6) (p.n 6) (c2 6), .slice f2 nf2 g2] 36) := ⟨HB2.out.2.1.below hb3, HB2.out.2.2.below hb3⟩
  clear e2 hb3 hx3 hl1 p0 p1 p2 p3 p4 p5 p6 p7 p8 p9 p10 p11
  have q0 := HD3.out.2.cell (j := 0) rfl
  have q1 := HD3.out.2.cell (j := 1) rfl
  have q2 := HD3.out.2.cell (j := 2) rfl
  have q3 := HD3.out.2.cell (j := 3) rfl
  have q4 := HD3.out.2.cell (j := 4) rfl
  have q5 := HD3.out.2.cell (j := 5) rfl
  have q6 := HD3.out.2.cell (j := 6) rfl
  have q7 := HD3.out.2.cell (j := 7) rfl
  have q8 := HD3.out.2.cell (j := 8) rfl
  have q9 := HD3.out.2.cell (j := 9) rfl
  have q10 := HD3.out.2.cell (j := 10) rfl
  have q11 := HD3.out.2.cell (j := 11) rfl
  go_wp2_with fail
  refine (rlists_c p.name p.evr p.arch p.vendor a2 p.n c2 f2 nf2 g2 w3).mono ?_
  rintro e w4 ⟨l2, rfl, hl2, hb4, hx4⟩
  have H4 : Hid (Below w.heap.size w w4 ∧ BoxN w4 w.heap.size [.string p.name, .string p.evr, .string p.arch, .string p.vendor, .slice (a1 0) (p.n 0) (c1 0), .slice (a1 1) (p.n 1) (c1 1), .slice (a1 2) (p.n 2) (c1 2), .slice (a1 3) (p.n 3) (c1 3), .slice (a1 4) (p.n 4) (c1 4), .slice (a1 5) (p.n 5) (c1 5), .slice (a1 6) (p.n 6) (c1 6), .slice f1 nf1 g1] 36 ∧ BoxN w4 (w.heap.size + 1) [.string p.name, .string p.evr, .string p.arch, .string p.vendor, .slice (a2 0) (p.n 0) (c2 0), .slice (a2 1) (p.n 1) (c2 1), .slice (a2 2) (p.n 2) (c2 2), .slice (a2 3) (p.n 3) (c2 3), .slice (a2 4) (p.n 4) (c2 4), .slice (a2 5) (p.n 5) (c2 5), .slice (a2 6) (p.n 6) (c2 6), .slice f2 nf2 g2] 36 ∧ BoxN w4 l1 (listsL fun i => .slice (a1 i) (p.n i) (c1 i)) 33 ∧ BoxN w4 l2 (listsL fun i => .slice (a2 i) (p.n i) (c2 i)) 33) :=
    ⟨below_tr (below_tr HB2.out.1 HB3.out) hb4, HD3.out.1.below hb4, HD3.out.2.below hb4, HX3.out.below hb4, hx4⟩
  clear hl2 hb4 hx4 HB2 HB3 HX3 HD3 q0 q1 q2 q3 q4 q5 q6 q7 q8 q9 q10 q11
  go_wp2_with fail
  go_loopw [7] (fun vi wr => ∃ i : Nat, vi = .int .i64 i ∧ i ≤ 7 ∧ Hid (Below w.heap.size w wr ∧ BoxN wr w.heap.size [.string p.name, .string p.evr, .string p.arch, .string p.vendor, .slice (a1 0) (p.n 0) (c1 0), .slice (a1 1) (p.n 1) (c1 1), .slice (a1 2) (p.n 2) (c1 2), .slice (a1 3) (p.n 3) (c1 3), .slice (a1 4) (p.n 4) (c1 4), .slice (a1 5) (p.n 5) (c1 5), .slice (a1 6) (p.n 6) (c1 6), .slice f1 nf1 g1] 36 ∧ BoxN wr (w.heap.size + 1) [.string p.name, .string p.evr, .string p.arch, .string p.vendor, .slice (a2 0) (p.n 0) (c2 0), .slice (a2 1) (p.n 1) (c2 1), .slice (a2 2) (p.n 2) (c2 2), .slice (a2 3) (p.n 3) (c2 3), .slice (a2 4) (p.n 4) (c2 4), .slice (a2 5) (p.n 5) (c2 5), .slice (a2 6) (p.n 6) (c2 6), .slice f2 nf2 g2] 36 ∧ BoxN wr l1 (listsL fun i => .slice (a1 i) (p.n i) (c1 i)) 33 ∧ BoxN wr l2 (listsL fun i => .slice (a2 i) (p.n i) (c2 i)) 33)) (fun vi _ => 7 - (intOf vi).toNat)
  case atStart => exact ⟨0, rfl, Nat.zero_le _, H4.out⟩
  case round =>
    clear H4
    obtain ⟨i, rfl, hin, HT⟩ := hrel
    by_cases hlt : i < 7
    · have hi1 : (i : Int) < 7 := by omega
      have HC : Hid (∀ W : World, Below w.heap.size w W → Calls Tryz.prog 59 #[.slice (a1 ⟨i, hlt⟩) (p.n ⟨i, hlt⟩) (c1 ⟨i, hlt⟩), .slice (a2 ⟨i, hlt⟩) (p.n ⟨i, hlt⟩) (c2 ⟨i, hlt⟩)] W fun e w' => e = .returned (.bool true) ∧ Below W.heap.size W w') := fun W hb =>
        rsameList_eq (p.n ⟨i, hlt⟩) (p.deps ⟨i, hlt⟩) _ _ S1 S2 W ((H1.out.deps ⟨i, hlt⟩).below hb) ((H2.out.deps ⟨i, hlt⟩).below hb)
      have HA : Hid (∀ W : World, W.heap[l1]? = wr.heap[l1]? → W.heap[l2]? = wr.heap[l2]? → W.cell? ⟨l1, i, none⟩ = some (.slice (a1 ⟨i, hlt⟩) (p.n ⟨i, hlt⟩) (c1 ⟨i, hlt⟩)) ∧ W.cell? ⟨l2, i, none⟩ = some (.slice (a2 ⟨i, hlt⟩) (p.n ⟨i, hlt⟩) (c2 ⟨i, hlt⟩))) := fun W e1 e2 =>
        ⟨(HT.out.2.2.2.1.to e1).cell (listsL_at _ hlt), (HT.out.2.2.2.2.to e2).cell (listsL_at _ hlt)⟩
      obtain ⟨x1, hx1⟩ : ∃ x, (Value.slice (a1 ⟨i, hlt⟩) (p.n ⟨i, hlt⟩) (c1 ⟨i, hlt⟩)) = x := ⟨_, rfl⟩
      obtain ⟨x2, hx2⟩ : ∃ x, (Value.slice (a2 ⟨i, hlt⟩) (p.n ⟨i, hlt⟩) (c2 ⟨i, hlt⟩)) = x := ⟨_, rfl⟩
      rw [hx1, hx2] at HC HA
      clear hx1 hx2
      have HSZ : Hid (l1 < wr.heap.size ∧ l2 < wr.heap.size) := ⟨HT.out.2.2.2.1.lt, HT.out.2.2.2.2.lt⟩
      go_upto_region 6 with fail
      refine wp_region_ord (fun W => W.heap[l1]? = wr.heap[l1]? ∧ W.heap[l2]? = wr.heap[l2]?) 9 [(true, 0), (true, 1), (true, 2), (true, 3), (true, 4), (true, 5), (true, 6), (true, 7), (false, 8), (false, 9)] (by kernel_rfl) (by kernel_rfl) (fun _ _ d _ _ h => by cases d <;> exact h) ⟨rfl, rfl⟩ ?_
      intro wd hwd hS
      simp only [ordOps, List.map_cons, List.map_nil, Array.getD_eq_getD_getElem?, List.getElem?_toArray, List.getElem?_cons_succ, List.getElem?_cons_zero, Option.getD_some]
      iterate 8 (refine wpOrd_q rfl _ (fun w' hS' K hK => (by obtain ⟨q1, q2⟩ := HA.out w' hS'.1 hS'.2; clear hS'; go_simp; exact hK)) (fun K hK => ?_); go_simp; refine hK _ ?_; clear hK K)
      have HBd : Hid (Below wr.heap.size wr wd) := by rw [hwd.out]; exact below_dr1 (Below.refl _ _)
      refine wpOrd_l rfl (fun K hK => ?_)
      go_simp
      refine (HC.out wd (below_tr HT.out.1 HBd.out)).mono ?_
      rintro e w5 ⟨rfl, hb5⟩
      have HB5 : Hid (Below wr.heap.size wr w5) := below_tr HBd.out hb5
      go_simp
      refine hK _ _ ⟨fun _ => ⟨HB5.out.block _ HSZ.out.1, HB5.out.block _ HSZ.out.2⟩, ?_⟩
      clear hK K hb5
      refine wpOrd_l rfl (fun K hK => ?_)
      go_simp
      refine hK _ _ ⟨fun h => absurd rfl h, ?_⟩
      clear hK K
      refine wpOrd_nil ?_
      have HN : Hid (Below w.heap.size w w5 ∧ BoxN w5 w.heap.size [.string p.name, .string p.evr, .string p.arch, .string p.vendor, .slice (a1 0) (p.n 0) (c1 0), .slice (a1 1) (p.n 1) (c1 1), .slice (a1 2) (p.n 2) (c1 2), .slice (a1 3) (p.n 3) (c1 3), .slice (a1 4) (p.n 4) (c1 4), .slice (a1 5) (p.n 5) (c1 5), .slice (a1 6) (p.n 6) (c1 6), .slice f1 nf1 g1] 36 ∧ BoxN w5 (w.heap.size + 1) [.string p.name, .string p.evr, .string p.arch, .string p.vendor, .slice (a2 0) (p.n 0) (c2 0), .slice (a2 1) (p.n 1) (c2 1), .slice (a2 2) (p.n 2) (c2 2), .slice (a2 3) (p.n 3) (c2 3), .slice (a2 4) (p.n 4) (c2 4), .slice (a2 5) (p.n 5) (c2 5), .slice (a2 6) (p.n 6) (c2 6), .slice f2 nf2 g2] 36 ∧ BoxN w5 l1 (listsL fun i => .slice (a1 i) (p.n i) (c1 i)) 33 ∧ BoxN w5 l2 (listsL fun i => .slice (a2 i) (p.n i) (c2 i)) 33) :=
        ⟨below_tr HT.out.1 HB5.out, HT.out.2.1.below HB5.out, HT.out.2.2.1.below HB5.out, HT.out.2.2.2.1.below HB5.out, HT.out.2.2.2.2.below HB5.out⟩
      clear hS hwd
      go_wp2_with fail
      go_roundw
      case rel => exact ⟨i + 1, by go_num, by omega, HN.out⟩
      case measure => simp [intOf]; omega
    · have hi1 : ¬ (i : Int) < 7 := by omega
      obtain rfl : i = 7 := by omega
      have HS := Lib.hid (sameT_eq p.files (.slice f1 nf1 g1) (.slice f2 nf2 g2) S1 S2 wr (H1.out.files.below HT.out.1) (H2.out.files.below HT.out.1))
      have p11 := HT.out.2.1.cell (j := 11) rfl
      have q11 := HT.out.2.2.1.cell (j := 11) rfl
      go_wp2_with fail
      refine HS.out.mono ?_
      rintro e w5 ⟨rfl, hb5⟩
      have r0 := (HT.out.2.1.below hb5).cell (j := 0) rfl
      have s0 := (HT.out.2.2.1.below hb5).cell (j := 0) rfl
      have r1 := (HT.out.2.1.below hb5).cell (j := 1) rfl
      have s1 := (HT.out.2.2.1.below hb5).cell (j := 1) rfl
      have r2 := (HT.out.2.1.below hb5).cell (j := 2) rfl
      have s2 := (HT.out.2.2.1.below hb5).cell (j := 2) rfl
      have r3 := (HT.out.2.1.below hb5).cell (j := 3) rfl
      have s3 := (HT.out.2.2.1.below hb5).cell (j := 3) rfl
      have HB5 : Hid (Below w.heap.size w w5) := below_tr HT.out.1 hb5
      clear p11 q11 hb5
      go_wp2_with fail
      go_ret
      exact ⟨by simp, HB5.out⟩
end Go.Proofs.YtjcefgjgjhdbpaaGreatDoor
namespace Go.Proofs.YtjcefgjgjhdbpaaGreatDoor
set_option linter.unusedVariables false
set_option linter.unusedSimpArgs false
open Go.RowKit Go.Maps

set_option maxHeartbeats 8000000 in
set_option maxRecDepth 100000 in
/-- Same. -/
theorem sameList_c (ps : List PkgT) (v1 v2 : Value) (S1 S2 : Nat → Prop) (w : World) (h1 : PkgsV w S1 ps v1) (h2 : PkgsV w S2 ps v2) :
    Calls Tryz.prog 9 #[v1, v2] w fun e w' => e = .returned (.bool true) ∧ Below w.heap.size w w' := by
  obtain ⟨a1, c1, rfl, hb1, hp1⟩ := h1
  obtain ⟨a2, c2, rfl, hb2, hp2⟩ := h2
  have HP1 := Lib.hid hp1
  have HP2 := Lib.hid hp2
  clear hp1 hp2
  obtain ⟨n, hn⟩ : ∃ n, ps.length = n := ⟨_, rfl⟩
  rw [hn]
  have HN := Lib.hid hn
  clear hn
  go_enter Tryz.func9, Tryz.ntmps9
  go_wp2_with fail
  go_loopw [5] (fun vi wr => ∃ i : Nat, vi = .int .i64 i ∧ i ≤ n ∧ Hid (Below w.heap.size w wr)) (fun vi _ => n - (intOf vi).toNat)
  case atStart => exact ⟨0, rfl, Nat.zero_le _, Below.refl _ _⟩
  case round =>
    obtain ⟨i, rfl, hin, HT⟩ := hrel
    by_cases hlt : i < n
    · have hi1 : (i : Int) < (n : Int) := by omega
      have hi2 : i < ps.length := by have := HN.out; omega
      obtain ⟨b1, o1, rfl, _, k1⟩ := HP1.out (by intro e; rw [e] at hi2; exact absurd hi2 (Nat.not_lt_zero _))
      obtain ⟨b2, o2, rfl, _, k2⟩ := HP2.out (by intro e; rw [e] at hi2; exact absurd hi2 (Nat.not_lt_zero _))
      obtain ⟨v1, f1, d1, g1⟩ := k1 i hi2
      obtain ⟨v2, f2, d2, g2⟩ := k2 i hi2
      obtain ⟨p, hp⟩ : ∃ p, ps[i] = p := ⟨_, rfl⟩
      rw [hp] at d1 g1 d2 g2
      obtain ⟨xa, xc, rfl⟩ := d1.slices
      obtain ⟨ya, yc, rfl⟩ := d2.slices
      obtain ⟨xf, xg, hf, _⟩ := d1.files
      subst hf
      obtain ⟨yf, yg, hf, _⟩ := d2.files
      subst hf
      have HC : Hid (∀ W : World, Below w.heap.size w W → Calls Tryz.prog 27 #[.agg #[.string p.name, .string p.evr, .string p.arch, .string p.vendor, .slice (xa 0) (p.n 0) (xc 0), .slice (xa 1) (p.n 1) (xc 1), .slice (xa 2) (p.n 2) (xc 2), .slice (xa 3) (p.n 3) (xc 3), .slice (xa 4) (p.n 4) (xc 4), .slice (xa 5) (p.n 5) (xc 5), .slice (xa 6) (p.n 6) (xc 6), .slice xf p.files.length xg], .agg #[.string p.name, .string p.evr, .string p.arch, .string p.vendor, .slice (ya 0) (p.n 0) (yc 0), .slice (ya 1) (p.n 1) (yc 1), .slice (ya 2) (p.n 2) (yc 2), .slice (ya 3) (p.n 3) (yc 3), .slice (ya 4) (p.n 4) (yc 4), .slice (ya 5) (p.n 5) (yc 5), .slice (ya 6) (p.n 6) (yc 6), .slice yf p.files.length yg]] W fun e w' => e = .returned (.bool true) ∧ Below W.heap.size W w') := Lib.hid fun W hb =>
        samePkg_eq p xa xc xf p.files.length xg ya yc yf p.files.length yg S1 S2 W (d1.below hb) (d2.below hb)
      have HL1 : Hid (b1 < w.heap.size ∧ b2 < w.heap.size) := ⟨World.block_lt_of_cell? w _ (g1 0 _ rfl), World.block_lt_of_cell? w _ (g2 0 _ rfl)⟩
      have HG1 := Lib.hid g1
      have HG2 := Lib.hid g2
      have HA : Hid (∀ W : World, W.heap[b1]? = w.heap[b1]? → W.heap[b2]? = w.heap[b2]? → (W.cell? ⟨b1, o1 + i * 12, none⟩ = some (.string p.name) ∧ W.cell? ⟨b1, o1 + i * 12 + 1, none⟩ = some (.string p.evr) ∧ W.cell? ⟨b1, o1 + i * 12 + 2, none⟩ = some (.string p.arch) ∧ W.cell? ⟨b1, o1 + i * 12 + 3, none⟩ = some (.string p.vendor) ∧ W.cell? ⟨b1, o1 + i * 12 + 4, none⟩ = some (.slice (xa 0) (p.n 0) (xc 0)) ∧ W.cell? ⟨b1, o1 + i * 12 + 5, none⟩ = some (.slice (xa 1) (p.n 1) (xc 1)) ∧ W.cell? ⟨b1, o1 + i * 12 + 6, none⟩ = some (.slice (xa 2) (p.n 2) (xc 2)) ∧ W.cell? ⟨b1, o1 + i * 12 + 7, none⟩ = some (.slice (xa 3) (p.n 3) (xc 3)) ∧ W.cell? ⟨b1, o1 + i * 12 + 8, none⟩ = some (.slice (xa 4) (p.n 4) (xc 4)) ∧ W.cell? ⟨b1, o1 + i * 12 + 9, none⟩ = some (.slice (xa 5) (p.n 5) (xc 5)) ∧ W.cell? ⟨b1, o1 + i * 12 + 10, none⟩ = some (.slice (xa 6) (p.n 6) (xc 6)) ∧ W.cell? ⟨b1, o1 + i * 12 + 11, none⟩ = some (.slice xf p.files.length xg)) ∧ (W.cell? ⟨b2, o2 + i * 12, none⟩ = some (.string p.name) ∧ W.cell? ⟨b2, o2 + i * 12 + 1, none⟩ = some (.string p.evr) ∧ W.cell? ⟨b2, o2 + i * 12 + 2, none⟩ = some (.string p.arch) ∧ W.cell? ⟨b2, o2 + i * 12 + 3, none⟩ = some (.string p.vendor) ∧ W.cell? ⟨b2, o2 + i * 12 + 4, none⟩ = some (.slice (ya 0) (p.n 0) (yc 0)) ∧ W.cell? ⟨b2, o2 + i * 12 + 5, none⟩ = some (.slice (ya 1) (p.n 1) (yc 1)) ∧ W.cell? ⟨b2, o2 + i * 12 + 6, none⟩ = some (.slice (ya 2) (p.n 2) (yc 2)) ∧ W.cell? ⟨b2, o2 + i * 12 + 7, none⟩ = some (.slice (ya 3) (p.n 3) (yc 3)) ∧ W.cell? ⟨b2, o2 + i * 12 + 8, none⟩ = some (.slice (ya 4) (p.n 4) (yc 4)) ∧ W.cell? ⟨b2, o2 + i * 12 + 9, none⟩ = some (.slice (ya 5) (p.n 5) (yc 5)) ∧ W.cell? ⟨b2, o2 + i * 12 + 10, none⟩ = some (.slice (ya 6) (p.n 6) (yc 6)) ∧ W.cell? ⟨b2, o2 + i * 12 + 11, none⟩ = some (.slice yf p.files.length yg))) := by
        refine Lib.hid ?_
        intro W e3 e4
        have k1 := HG1.out.keep e3
        have k2 := HG2.out.keep e4
        exact ⟨⟨k1 0 _ rfl, k1 1 _ rfl, k1 2 _ rfl, k1 3 _ rfl, k1 4 _ rfl, k1 5 _ rfl, k1 6 _ rfl, k1 7 _ rfl, k1 8 _ rfl, k1 9 _ rfl, k1 10 _ rfl, k1 11 _ rfl⟩, ⟨k2 0 _ rfl, k2 1 _ rfl, k2 2 _ rfl, k2 3 _ rfl, k2 4 _ rfl, k2 5 _ rfl, k2 6 _ rfl, k2 7 _ rfl, k2 8 _ rfl, k2 9 _ rfl, k2 10 _ rfl, k2 11 _ rfl⟩⟩
      clear k1 k2 d1 d2 g1 g2 hp
      generalize p.files.length = nf at HC HA
      go_upto_region 6 with fail
      refine wp_region_ord (fun W => W.heap[b1]? = w.heap[b1]? ∧ W.heap[b2]? = w.heap[b2]?) 9 [(true, 0), (true, 1), (true, 2), (true, 3), (true, 4), (true, 5), (true, 6), (true, 7), (false, 8), (false, 9)] (by kernel_rfl) (by kernel_rfl) (fun _ _ d _ _ h => by cases d <;> exact h) ⟨HT.out.block b1 HL1.out.1, HT.out.block b2 HL1.out.2⟩ ?_
      intro wd hwd hS
      simp only [ordOps, List.map_cons, List.map_nil, Array.getD_eq_getD_getElem?, List.getElem?_toArray, List.getElem?_cons_succ, List.getElem?_cons_zero, Option.getD_some]
      iterate 8 (refine wpOrd_q rfl _ (fun w' hS' K hK => (by obtain ⟨⟨t0, t1, t2, t3, t4, t5, t6, t7, t8, t9, t10, t11⟩, ⟨s0, s1, s2, s3, s4, s5, s6, s7, s8, s9, s10, s11⟩⟩ := HA.out w' hS'.1 hS'.2; clear hS'; go_simp; exact hK)) (fun K hK => ?_); go_simp; refine hK _ ?_; clear hK K)
      have HBd : Hid (Below w.heap.size w wd) := by rw [hwd.out]; exact below_dr1 HT.out
      refine wpOrd_l rfl (fun K hK => ?_)
      go_simp
      refine (HC.out wd HBd.out).mono ?_
      rintro e w5 ⟨rfl, hb5⟩
      have HB5 : Hid (Below w.heap.size w w5) := below_tr HBd.out hb5
      go_simp
      refine hK _ _ ⟨fun _ => ⟨HB5.out.block b1 HL1.out.1, HB5.out.block b2 HL1.out.2⟩, ?_⟩
      clear hK K hb5
      refine wpOrd_l rfl (fun K hK => ?_)
      go_simp
      refine hK _ _ ⟨fun h => absurd rfl h, ?_⟩
      clear hK K
      refine wpOrd_nil ?_
      clear hS hwd
      go_wp2_with fail
      go_roundw
      case rel => exact ⟨i + 1, by go_num, by omega, HB5.out⟩
      case measure => simp [intOf]; omega
    · have hi1 : ¬ (i : Int) < (n : Int) := by omega
      go_wp2_with fail
      go_ret
      exact ⟨rfl, HT.out⟩
end Go.Proofs.YtjcefgjgjhdbpaaGreatDoor
namespace Go.Proofs.YtjcefgjgjhdbpaaGreatDoor
set_option linter.unusedVariables false
set_option linter.unusedSimpArgs false
open Go.RowKit Go.Maps

theorem PkgsV.low {w w' : World} {S : Nat → Prop} {l : List PkgT} {v : Value} (h : PkgsV w S l v) (hS : ∀ b, S b → b < w.heap.size) (hb : Below w.heap.size w w') : PkgsV w' (· < w'.heap.size) l v :=
  h.keep (fun b h => Nat.lt_of_lt_of_le (hS b h) hb.size) (fun b _ hl => hb.block b hl)
theorem new_lt {B : Nat} {w : World} : ∀ b, New B w b → b < w.heap.size := fun b h => h.2.lt
theorem bs_app (a b : ByteArray) : bs (a ++ b) = bs a ++ bs b := by
  unfold bs
  simp [ByteArray.data_append]
theorem ne0 {x : Int} (h : x ≠ 0) : (x == 0) = false ∧ (x != 0) = true := ⟨by simpa using h, by simpa using h⟩
end Go.Proofs.YtjcefgjgjhdbpaaGreatDoor
