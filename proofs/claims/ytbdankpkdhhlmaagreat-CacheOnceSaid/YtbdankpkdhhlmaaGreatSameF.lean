/-
  Two things are found the same just if they read the same: texts, dependencies. Helper text; the conditions are those typed.
  Two packages are found the same just if they read the same. Helper text; the conditions are those typed.
  Two repositories are found the same just if they read the same. Helper text; the conditions are those typed.
-/
import Derived.Test.YtbdankpkdhhlmaaGreatSameC
import Derived.Test.YtbdankpkdhhlmaaGreatCBack
namespace Go.Proofs.YtbdankpkdhhlmaaGreat
set_option linter.unusedVariables false
set_option linter.unusedSimpArgs false
open Go.RowKit Go.Maps

/-- The answer says whether Q. -/
def IsB (Q : Prop) (e : Ending) : Prop := ∃ b : Bool, e = .returned (.bool b) ∧ (b = true ↔ Q)
theorem IsB.yes {Q : Prop} (h : Q) : IsB Q (.returned (.bool true)) := ⟨true, rfl, fun _ => h, fun _ => rfl⟩
theorem IsB.no {Q : Prop} (h : ¬ Q) : IsB Q (.returned (.bool false)) := ⟨false, rfl, fun h => (by cases h), fun h2 => absurd h2 h⟩
set_option maxHeartbeats 1000000 in
/-- SameTexts. -/
theorem sameT_b (l m : List ByteArray) (v1 v2 : Value) (S1 S2 : Nat → Prop) (w : World) (h1 : StrsV w S1 l v1) (h2 : StrsV w S2 m v2) :
    Calls Tryz.prog 67 #[v1, v2] w fun e w' => IsB (l = m) e ∧ Below w.heap.size w w' := by
  obtain ⟨a1, c1, rfl, _, hl, i1⟩ := h1
  obtain ⟨a2, c2, rfl, _, hl2, i2⟩ := h2
  obtain ⟨n, hn⟩ : ∃ n, l.length = n := ⟨_, rfl⟩
  obtain ⟨n2, hn2⟩ : ∃ n, m.length = n := ⟨_, rfl⟩
  have H1 := Lib.hid i1
  have H2 := Lib.hid i2
  have HN := Lib.hid hn
  have HN2 := Lib.hid hn2
  rw [hn] at hl ⊢
  rw [hn2] at hl2 ⊢
  clear i1 i2 hn hn2
  by_cases hnn : n = n2
  · subst hnn
    clear hl2
    go_enter Tryz.func67, Tryz.ntmps67
    go_wp2_with fail
    go_loopw [5] (fun vi wr => ∃ i : Nat, vi = .int .i64 i ∧ i ≤ n ∧ Hid (Below w.heap.size w wr ∧ ∀ j, j < i → l[j]? = m[j]?)) (fun vi _ => n - (intOf vi).toNat)
    case atStart => exact ⟨0, rfl, Nat.zero_le _, Below.refl _ _, fun j h => absurd h (Nat.not_lt_zero _)⟩
    case round =>
      obtain ⟨i, rfl, hin, HB⟩ := hrel
      by_cases hlt : i < n
      · have hi1 : (i : Int) < (n : Int) := by omega
        have hil : i < l.length := by have := HN.out; omega
        have him : i < m.length := by have := HN2.out; omega
        obtain ⟨b1, o1, rfl, _, k1⟩ := H1.out (by intro e; rw [e] at hil; exact absurd hil (Nat.not_lt_zero _))
        obtain ⟨b2, o2, rfl, _, k2⟩ := H2.out (by intro e; rw [e] at him; exact absurd him (Nat.not_lt_zero _))
        have q1 := cell_tr HB.out.1 (k1 i hil)
        have q2 := cell_tr HB.out.1 (k2 i him)
        have HX : Hid (l[i]? = some l[i] ∧ m[i]? = some m[i]) := Lib.hid ⟨List.getElem?_eq_getElem hil, List.getElem?_eq_getElem him⟩
        generalize l[i] = x at q1 HX
        generalize m[i] = y at q2 HX
        clear k1 k2
        by_cases hxy : x = y
        · subst hxy
          go_wp2_with fail
          go_quiet (fail)
          go_wp2_with fail
          have HW : Hid (Below w.heap.size w (wr.drewN nq) ∧ ∀ j, j < i + 1 → l[j]? = m[j]?) := Lib.hid ⟨below_drewN HB.out.1 nq, fun j hj => by
            by_cases e : j = i
            · rw [e, HX.out.1, HX.out.2]
            · exact HB.out.2 j (by omega)⟩
          go_roundw
          case rel => exact ⟨i + 1, by go_num, by omega, HW.out⟩
          case measure => simp [intOf]; omega
        · have hz : (x.toList == y.toList) = false := by rw [beqS]; exact decide_eq_false hxy
          go_wp2_with fail
          go_quiet (fail)
          go_wp2_with fail
          go_ret
          refine ⟨IsB.no fun e => ?_, below_drewN HB.out.1 nq⟩
          have h1 := HX.out.1
          rw [e, HX.out.2] at h1
          exact hxy (Option.some.inj h1).symm
      · have hi1 : ¬ (i : Int) < (n : Int) := by omega
        go_wp2_with fail
        go_ret
        refine ⟨IsB.yes (List.ext_getElem? fun j => ?_), HB.out.1⟩
        by_cases hj : j < i
        · exact HB.out.2 j hj
        · have := HN.out
          have := HN2.out
          rw [List.getElem?_eq_none (by omega), List.getElem?_eq_none (by omega)]
  · have hne : ¬ (n : Int) = (n2 : Int) := by omega
    go_enter Tryz.func67, Tryz.ntmps67
    go_wp2_with fail
    go_ret
    refine ⟨IsB.no fun e => ?_, Below.refl _ _⟩
    have h1 := HN.out
    have h2 := HN2.out
    rw [e] at h1
    omega

set_option maxHeartbeats 4000000 in
set_option maxRecDepth 100000 in
theorem rsame_b0 (k : Int) (nm : ByteArray) (op : Int) (ev : ByteArray) (n : Nat) (args : Fin n → DepT)
    (ih : ∀ i : Fin n, ∀ (d2 : DepT) (cs1 cs2 : List Value) (S1 S2 : Nat → Prop) (w : World), DepC w S1 (args i) cs1 → DepC w S2 d2 cs2 → Calls Tryz.prog 98 #[.agg cs1.toArray, .agg cs2.toArray] w fun e w' => IsB (args i = d2) e ∧ Below w.heap.size w w') :
    ∀ (d2 : DepT) (cs1 cs2 : List Value) (S1 S2 : Nat → Prop) (w : World), DepC w S1 (.mk k nm op ev n args) cs1 → DepC w S2 d2 cs2 → Calls Tryz.prog 98 #[.agg cs1.toArray, .agg cs2.toArray] w fun e w' => IsB (.mk k nm op ev n args = d2) e ∧ Below w.heap.size w w' := by
  intro d2 cs1 cs2 S1 S2 w h1 h2
  cases d2 with
  | mk k2 nm2 op2 ev2 n2 args2 =>
  obtain ⟨a1, c1, rfl, _, _, _, hn, i1⟩ := h1
  obtain ⟨a2, c2, rfl, _, _, _, hn2, i2⟩ := h2
  have H1 := Lib.hid i1
  have H2 := Lib.hid i2
  have IH := Lib.hid ih
  clear i1 i2 ih
  obtain ⟨w2, e2⟩ : ∃ w2, (w.alloc (.cells #[.int .i64 k, .string nm, .int .i64 op, .string ev, .slice a1 n c1] 52)).alloc (.cells #[.int .i64 k2, .string nm2, .int .i64 op2, .string ev2, .slice a2 n2 c2] 52) = w2 := ⟨_, rfl⟩
  have HB2 : Hid (Below w.heap.size w w2 ∧ BoxN w2 w.heap.size [.int .i64 k, .string nm, .int .i64 op, .string ev, .slice a1 n c1] 52 ∧ BoxN w2 (w.heap.size + 1) [.int .i64 k2, .string nm2, .int .i64 op2, .string ev2, .slice a2 n2 c2] 52) := by
    rw [← e2]
    refine ⟨below2 _ _ _, (boxN_alloc w [.int .i64 k, .string nm, .int .i64 op, .string ev, .slice a1 n c1] 52).below (below1 _ _), ?_⟩
    have h1 := boxN_alloc (w.alloc (.cells #[.int .i64 k, .string nm, .int .i64 op, .string ev, .slice a1 n c1] 52)) [.int .i64 k2, .string nm2, .int .i64 op2, .string ev2, .slice a2 n2 c2] 52
    rw [World.size_alloc] at h1
    exact h1
  have p0 := HB2.out.2.1.cell (j := 0) rfl
  have p1 := HB2.out.2.1.cell (j := 1) rfl
  have p2 := HB2.out.2.1.cell (j := 2) rfl
  have p3 := HB2.out.2.1.cell (j := 3) rfl
  have p4 := HB2.out.2.1.cell (j := 4) rfl
  have q0 := HB2.out.2.2.cell (j := 0) rfl
  have q1 := HB2.out.2.2.cell (j := 1) rfl
  have q2 := HB2.out.2.2.cell (j := 2) rfl
  have q3 := HB2.out.2.2.cell (j := 3) rfl
  have q4 := HB2.out.2.2.cell (j := 4) rfl
  obtain ⟨EQ, hEQ⟩ : ∃ EQ : Prop, (DepT.mk k nm op ev n args = .mk k2 nm2 op2 ev2 n2 args2) = EQ := ⟨_, rfl⟩
  rw [hEQ]
  have HE := Lib.hid hEQ
  clear hEQ
  by_cases hk : k = k2
  case neg =>
    have HZ : Hid (¬ EQ) := Lib.hid (by rw [← HE.out]; intro e; injection e; contradiction)
    clear HE
    go_enter Tryz.func98, Tryz.ntmps98
    go_wp2_with fail
    go_ret
    exact ⟨IsB.no HZ.out, HB2.out.1⟩
  subst hk
  by_cases hnm : nm = nm2
  case neg =>
    have HZ : Hid (¬ EQ) := Lib.hid (by rw [← HE.out]; intro e; injection e; contradiction)
    clear HE
    have hz : (nm.toList == nm2.toList) = false := by rw [beqS]; exact decide_eq_false hnm
    go_enter Tryz.func98, Tryz.ntmps98
    go_wp2_with fail
    go_ret
    exact ⟨IsB.no HZ.out, HB2.out.1⟩
  subst hnm
  by_cases hop : op = op2
  case neg =>
    have HZ : Hid (¬ EQ) := Lib.hid (by rw [← HE.out]; intro e; injection e; contradiction)
    clear HE
    go_enter Tryz.func98, Tryz.ntmps98
    go_wp2_with fail
    go_ret
    exact ⟨IsB.no HZ.out, HB2.out.1⟩
  subst hop
  by_cases hev : ev = ev2
  case neg =>
    have HZ : Hid (¬ EQ) := Lib.hid (by rw [← HE.out]; intro e; injection e; contradiction)
    clear HE
    have hz : (ev.toList == ev2.toList) = false := by rw [beqS]; exact decide_eq_false hev
    go_enter Tryz.func98, Tryz.ntmps98
    go_wp2_with fail
    go_ret
    exact ⟨IsB.no HZ.out, HB2.out.1⟩
  subst hev
  by_cases hn : n = n2
  case neg =>
    have HZ : Hid (¬ EQ) := Lib.hid (by rw [← HE.out]; intro e; injection e; contradiction)
    clear HE
    have hz : ¬ (n : Int) = (n2 : Int) := by omega
    go_enter Tryz.func98, Tryz.ntmps98
    go_wp2_with fail
    go_ret
    exact ⟨IsB.no HZ.out, HB2.out.1⟩
  subst hn
  go_enter Tryz.func98, Tryz.ntmps98
  go_wp2_with fail
  clear e2 p0 p1 p2 p3 p4 q0 q1 q2 q3 q4
  go_loopw [5] (fun vi wr => ∃ i : Nat, vi = .int .i64 i ∧ i ≤ n ∧ Hid (Below w.heap.size w wr ∧ BoxN wr w.heap.size [.int .i64 k, .string nm, .int .i64 op, .string ev, .slice a1 n c1] 52 ∧ BoxN wr (w.heap.size + 1) [.int .i64 k, .string nm, .int .i64 op, .string ev, .slice a2 n c2] 52 ∧ ∀ j : Fin n, j.val < i → args j = args2 j)) (fun vi _ => n - (intOf vi).toNat)
  case atStart => exact ⟨0, rfl, Nat.zero_le _, HB2.out.1, HB2.out.2.1, HB2.out.2.2, fun j h => absurd h (Nat.not_lt_zero _)⟩
  case round =>
    clear HB2
    obtain ⟨i, rfl, hin, HT⟩ := hrel
    have p4 := HT.out.2.1.cell (j := 4) rfl
    by_cases hlt : i < n
    · have hi1 : (i : Int) < (n : Int) := by omega
      obtain ⟨b1, o1, rfl, _, k1⟩ := H1.out (by omega)
      obtain ⟨b2, o2, rfl, _, k2⟩ := H2.out (by omega)
      obtain ⟨cs1, d1, g1⟩ := k1 ⟨i, hlt⟩
      obtain ⟨cs2, d2, g2⟩ := k2 ⟨i, hlt⟩
      have hIH := IH.out ⟨i, hlt⟩ (args2 ⟨i, hlt⟩)
      obtain ⟨x0, x1, x2, x3, xa, xn, xc, rfl⟩ := d1.shape
      obtain ⟨y0, y1, y2, y3, ya, yn, yc, rfl⟩ := d2.shape
      have HC : Hid (∀ W : World, Below w.heap.size w W → Calls Tryz.prog 98 #[.agg #[.int .i64 x0, .string x1, .int .i64 x2, .string x3, .slice xa xn xc], .agg #[.int .i64 y0, .string y1, .int .i64 y2, .string y3, .slice ya yn yc]] W fun e w' => IsB (args ⟨i, hlt⟩ = args2 ⟨i, hlt⟩) e ∧ Below W.heap.size W w') := fun W hb => hIH _ _ S1 S2 W (d1.below hb) (d2.below hb)
      have HL1 : Hid (b1 < w.heap.size ∧ b2 < w.heap.size) := ⟨World.block_lt_of_cell? w _ (g1 0 _ rfl), World.block_lt_of_cell? w _ (g2 0 _ rfl)⟩
      have HG1 : Hid (∀ W : World, W.heap[b1]? = w.heap[b1]? → CellsAt W b1 (o1 + i * 5) [.int .i64 x0, .string x1, .int .i64 x2, .string x3, .slice xa xn xc]) := fun W hW => g1.keep hW
      have HG2 : Hid (∀ W : World, W.heap[b2]? = w.heap[b2]? → CellsAt W b2 (o2 + i * 5) [.int .i64 y0, .string y1, .int .i64 y2, .string y3, .slice ya yn yc]) := fun W hW => g2.keep hW
      have HA : Hid (∀ W : World, W.heap[w.heap.size]? = wr.heap[w.heap.size]? → W.heap[w.heap.size + 1]? = wr.heap[w.heap.size + 1]? → W.heap[b1]? = w.heap[b1]? → W.heap[b2]? = w.heap[b2]? →
          W.cell? ⟨w.heap.size, 4, none⟩ = some (.slice (some ⟨b1, o1, none⟩) n c1) ∧ W.cell? ⟨w.heap.size + 1, 4, none⟩ = some (.slice (some ⟨b2, o2, none⟩) n c2) ∧
          (W.cell? ⟨b1, o1 + i * 5, none⟩ = some (.int .i64 x0) ∧ W.cell? ⟨b1, o1 + i * 5 + 1, none⟩ = some (.string x1) ∧ W.cell? ⟨b1, o1 + i * 5 + 2, none⟩ = some (.int .i64 x2) ∧ W.cell? ⟨b1, o1 + i * 5 + 3, none⟩ = some (.string x3) ∧ W.cell? ⟨b1, o1 + i * 5 + 4, none⟩ = some (.slice xa xn xc)) ∧
          (W.cell? ⟨b2, o2 + i * 5, none⟩ = some (.int .i64 y0) ∧ W.cell? ⟨b2, o2 + i * 5 + 1, none⟩ = some (.string y1) ∧ W.cell? ⟨b2, o2 + i * 5 + 2, none⟩ = some (.int .i64 y2) ∧ W.cell? ⟨b2, o2 + i * 5 + 3, none⟩ = some (.string y3) ∧ W.cell? ⟨b2, o2 + i * 5 + 4, none⟩ = some (.slice ya yn yc))) := by
        intro W e1 e2 e3 e4
        have k1 := HG1.out W e3
        have k2 := HG2.out W e4
        exact ⟨(HT.out.2.1.to e1).cell (j := 4) rfl, (HT.out.2.2.1.to e2).cell (j := 4) rfl, ⟨k1 0 _ rfl, k1 1 _ rfl, k1 2 _ rfl, k1 3 _ rfl, k1 4 _ rfl⟩, ⟨k2 0 _ rfl, k2 1 _ rfl, k2 2 _ rfl, k2 3 _ rfl, k2 4 _ rfl⟩⟩
      have HSZ : Hid (w.heap.size < wr.heap.size ∧ w.heap.size + 1 < wr.heap.size) := ⟨HT.out.2.1.lt, HT.out.2.2.1.lt⟩
      obtain ⟨Q, hQ⟩ : ∃ Q : Prop, (args ⟨i, hlt⟩ = args2 ⟨i, hlt⟩) = Q := ⟨_, rfl⟩
      rw [hQ] at HC
      have HQ := Lib.hid hQ
      clear k1 k2 d1 d2 g1 g2 hIH hQ
      go_upto_region 6 with fail
      refine wp_region_ord (fun W => W.heap[w.heap.size]? = wr.heap[w.heap.size]? ∧ W.heap[w.heap.size + 1]? = wr.heap[w.heap.size + 1]? ∧ W.heap[b1]? = w.heap[b1]? ∧ W.heap[b2]? = w.heap[b2]?) 11 [(true, 0), (true, 1), (true, 2), (true, 3), (true, 4), (true, 5), (true, 6), (true, 7), (true, 8), (true, 9), (false, 10), (false, 11)] (by kernel_rfl) (by kernel_rfl) (fun _ _ d _ _ h => by cases d <;> exact h) ⟨rfl, rfl, HT.out.1.block b1 HL1.out.1, HT.out.1.block b2 HL1.out.2⟩ ?_
      intro wd hwd hS
      simp only [ordOps, List.map_cons, List.map_nil, Array.getD_eq_getD_getElem?, List.getElem?_toArray, List.getElem?_cons_succ, List.getElem?_cons_zero, Option.getD_some]
      iterate 10 (refine wpOrd_q rfl _ (fun w' hS' K hK => (by obtain ⟨q1, q2, ⟨t0, t1, t2, t3, t4⟩, ⟨s0, s1, s2, s3, s4⟩⟩ := HA.out w' hS'.1 hS'.2.1 hS'.2.2.1 hS'.2.2.2; clear hS'; go_simp; exact hK)) (fun K hK => ?_); go_simp; refine hK _ ?_; clear hK K)
      have HBd : Hid (Below wr.heap.size wr wd) := by rw [hwd.out]; exact below_dr1 (Below.refl _ _)
      refine wpOrd_l rfl (fun K hK => ?_)
      go_simp
      refine (HC.out wd (below_tr HT.out.1 HBd.out)).mono ?_
      rintro e w4 ⟨⟨bb, rfl, hbb⟩, hb4⟩
      have HBB := Lib.hid hbb
      have HB4 : Hid (Below wr.heap.size wr w4) := below_tr HBd.out hb4
      clear hbb
      go_simp
      refine hK _ _ ⟨fun _ => ⟨HB4.out.block _ HSZ.out.1, HB4.out.block _ HSZ.out.2, (HB4.out.block _ (Nat.lt_of_lt_of_le HL1.out.1 HT.out.1.size)).trans (HT.out.1.block b1 HL1.out.1), (HB4.out.block _ (Nat.lt_of_lt_of_le HL1.out.2 HT.out.1.size)).trans (HT.out.1.block b2 HL1.out.2)⟩, ?_⟩
      clear hK K hb4
      refine wpOrd_l rfl (fun K hK => ?_)
      go_simp
      refine hK _ _ ⟨fun h => absurd rfl h, ?_⟩
      clear hK K
      refine wpOrd_nil ?_
      have HN : Hid (Below w.heap.size w w4 ∧ BoxN w4 w.heap.size [.int .i64 k, .string nm, .int .i64 op, .string ev, .slice (some ⟨b1, o1, none⟩) n c1] 52 ∧ BoxN w4 (w.heap.size + 1) [.int .i64 k, .string nm, .int .i64 op, .string ev, .slice (some ⟨b2, o2, none⟩) n c2] 52) := ⟨below_tr HT.out.1 HB4.out, HT.out.2.1.below HB4.out, HT.out.2.2.1.below HB4.out⟩
      clear hS hwd p4
      cases bb with
      | true =>
        have HQQ : Hid (args ⟨i, hlt⟩ = args2 ⟨i, hlt⟩) := Lib.hid (by rw [HQ.out]; exact HBB.out.1 rfl)
        go_wp2_with fail
        go_roundw
        case rel => exact ⟨i + 1, by go_num, by omega, HN.out.1, HN.out.2.1, HN.out.2.2, fun j hj => by
          by_cases e : j.val = i
          · have : j = ⟨i, hlt⟩ := Fin.ext e
            rw [this]
            exact HQQ.out
          · exact HT.out.2.2.2 j (by omega)⟩
        case measure => simp [intOf]; omega
      | false =>
        have HZ : Hid (¬ EQ) := Lib.hid (by
          rw [← HE.out]
          intro e
          injection e with _ _ _ _ _ e
          have h1 : Q := by
            rw [← HQ.out]
            rw [e]
          have := HBB.out.2 h1
          cases this)
        go_wp2_with fail
        go_ret
        exact ⟨IsB.no HZ.out, HN.out.1⟩
    · have hi1 : ¬ (i : Int) < (n : Int) := by omega
      have HZ : Hid EQ := Lib.hid (by
        rw [← HE.out]
        congr 1
        funext j
        exact HT.out.2.2.2 j (by have := j.isLt; omega))
      go_wp2_with fail
      go_ret
      exact ⟨IsB.yes HZ.out, HT.out.1⟩
/-- ref05.Same. -/
theorem rsame_b : ∀ (d d2 : DepT) (cs1 cs2 : List Value) (S1 S2 : Nat → Prop) (w : World), DepC w S1 d cs1 → DepC w S2 d2 cs2 → Calls Tryz.prog 98 #[.agg cs1.toArray, .agg cs2.toArray] w fun e w' => IsB (d = d2) e ∧ Below w.heap.size w w' := by
  intro d
  induction d with
  | mk k nm op ev n args ih => exact rsame_b0 k nm op ev n args ih
/-- A list of dependencies, as one thing. -/
def mk0 (n : Nat) (args : Fin n → DepT) : DepT := .mk 0 ⟨#[]⟩ 0 ⟨#[]⟩ n args
set_option maxHeartbeats 1000000 in
/-- SameList. -/
theorem rsameList_b (n : Nat) (args : Fin n → DepT) (n2 : Nat) (args2 : Fin n2 → DepT) (v1 v2 : Value) (S1 S2 : Nat → Prop) (w : World) (h1 : DepsV w S1 n args v1) (h2 : DepsV w S2 n2 args2 v2) :
    Calls Tryz.prog 66 #[v1, v2] w fun e w' => IsB (mk0 n args = mk0 n2 args2) e ∧ Below w.heap.size w w' := by
  have HC := Lib.hid (rsame_b (mk0 n args) (mk0 n2 args2) [.int .i64 0, .string ⟨#[]⟩, .int .i64 0, .string ⟨#[]⟩, v1] [.int .i64 0, .string ⟨#[]⟩, .int .i64 0, .string ⟨#[]⟩, v2] S1 S2 w (depC_iff.2 ⟨v1, rfl, by decide, by decide, by decide, h1⟩) (depC_iff.2 ⟨v2, rfl, by decide, by decide, by decide, h2⟩))
  obtain ⟨a1, c1, rfl, _⟩ := h1
  obtain ⟨a2, c2, rfl, _⟩ := h2
  generalize (mk0 n args = mk0 n2 args2) = Q at HC ⊢
  go_enter Tryz.func66, Tryz.ntmps66
  go_wp2_with fail
  refine HC.out.mono ?_
  rintro e w2 ⟨⟨b, rfl, hb0⟩, hb⟩
  have HB0 := Lib.hid hb0
  clear hb0
  go_wp2_with fail
  go_ret
  exact ⟨⟨b, rfl, HB0.out⟩, hb⟩
end Go.Proofs.YtbdankpkdhhlmaaGreat
namespace Go.Proofs.YtbdankpkdhhlmaaGreat
set_option linter.unusedVariables false
set_option linter.unusedSimpArgs false
open Go.RowKit Go.Maps

theorem mk0_list {n m : Nat} {a : Fin n → DepT} {b : Fin m → DepT} (h : mk0 n a = mk0 m b) : (List.finRange n).map a = (List.finRange m).map b := by
  unfold mk0 at h
  injection h with _ _ _ _ h1 h2
  subst h1
  rw [eq_of_heq h2]
set_option maxHeartbeats 4000000 in
set_option maxRecDepth 100000 in
/-- SamePackage. -/
theorem samePkg_b (p q : PkgT) (a1 : Fin 7 → Option Addr) (c1 : Fin 7 → Nat) (f1 : Option Addr) (nf1 g1 : Nat) (a2 : Fin 7 → Option Addr) (c2 : Fin 7 → Nat) (f2 : Option Addr) (nf2 g2 : Nat) (S1 S2 : Nat → Prop) (w : World)
    (h1 : PkgV w S1 p (fun i => .slice (a1 i) (p.n i) (c1 i)) (.slice f1 nf1 g1)) (h2 : PkgV w S2 q (fun i => .slice (a2 i) (q.n i) (c2 i)) (.slice f2 nf2 g2)) :
    Calls Tryz.prog 40 #[.agg #[.string p.name, .string p.evr, .string p.arch, .string p.vendor, .slice (a1 0) (p.n 0) (c1 0), .slice (a1 1) (p.n 1) (c1 1), .slice (a1 2) (p.n 2) (c1 2), .slice (a1 3) (p.n 3) (c1 3), .slice (a1 4) (p.n 4) (c1 4), .slice (a1 5) (p.n 5) (c1 5), .slice (a1 6) (p.n 6) (c1 6), .slice f1 nf1 g1], .agg #[.string q.name, .string q.evr, .string q.arch, .string q.vendor, .slice (a2 0) (q.n 0) (c2 0), .slice (a2 1) (q.n 1) (c2 1), .slice (a2 2) (q.n 2) (c2 2), .slice (a2 3) (q.n 3) (c2 3), .slice (a2 4) (q.n 4) (c2 4), .slice (a2 5) (q.n 5) (c2 5), .slice (a2 6) (q.n 6) (c2 6), .slice f2 nf2 g2]] w fun e w' => IsB (p = q) e ∧ Below w.heap.size w w' := by
  obtain ⟨w2, e2⟩ : ∃ w2, (w.alloc (.cells #[.string p.name, .string p.evr, .string p.arch, .string p.vendor, .slice (a1 0) (p.n 0) (c1 0), .slice (a1 1) (p.n 1) (c1 1), .slice (a1 2) (p.n 2) (c1 2), .slice (a1 3) (p.n 3) (c1 3), .slice (a1 4) (p.n 4) (c1 4), .slice (a1 5) (p.n 5) (c1 5), .slice (a1 6) (p.n 6) (c1 6), .slice f1 nf1 g1] 45)).alloc (.cells #[.string q.name, .string q.evr, .string q.arch, .string q.vendor, .slice (a2 0) (q.n 0) (c2 0), .slice (a2 1) (q.n 1) (c2 1), .slice (a2 2) (q.n 2) (c2 2), .slice (a2 3) (q.n 3) (c2 3), .slice (a2 4) (q.n 4) (c2 4), .slice (a2 5) (q.n 5) (c2 5), .slice (a2 6) (q.n 6) (c2 6), .slice f2 nf2 g2] 45) = w2 := ⟨_, rfl⟩
  have HB2 : Hid (Below w.heap.size w w2 ∧ BoxN w2 w.heap.size [.string p.name, .string p.evr, .string p.arch, .string p.vendor, .slice (a1 0) (p.n 0) (c1 0), .slice (a1 1) (p.n 1) (c1 1), .slice (a1 2) (p.n 2) (c1 2), .slice (a1 3) (p.n 3) (c1 3), .slice (a1 4) (p.n 4) (c1 4), .slice (a1 5) (p.n 5) (c1 5), .slice (a1 6) (p.n 6) (c1 6), .slice f1 nf1 g1] 45 ∧ BoxN w2 (w.heap.size + 1) [.string q.name, .string q.evr, .string q.arch, .string q.vendor, .slice (a2 0) (q.n 0) (c2 0), .slice (a2 1) (q.n 1) (c2 1), .slice (a2 2) (q.n 2) (c2 2), .slice (a2 3) (q.n 3) (c2 3), .slice (a2 4) (q.n 4) (c2 4), .slice (a2 5) (q.n 5) (c2 5), .slice (a2 6) (q.n 6) (c2 6), .slice f2 nf2 g2] 45) := by
    rw [← e2]
    refine ⟨below2 _ _ _, (boxN_alloc w [.string p.name, .string p.evr, .string p.arch, .string p.vendor, .slice (a1 0) (p.n 0) (c1 0), .slice (a1 1) (p.n 1) (c1 1), .slice (a1 2) (p.n 2) (c1 2), .slice (a1 3) (p.n 3) (c1 3), .slice (a1 4) (p.n 4) (c1 4), .slice (a1 5) (p.n 5) (c1 5), .slice (a1 6) (p.n 6) (c1 6), .slice f1 nf1 g1] 45).below (below1 _ _), ?_⟩
    have h1 := boxN_alloc (w.alloc (.cells #[.string p.name, .string p.evr, .string p.arch, .string p.vendor, .slice (a1 0) (p.n 0) (c1 0), .slice (a1 1) (p.n 1) (c1 1), .slice (a1 2) (p.n 2) (c1 2), .slice (a1 3) (p.n 3) (c1 3), .slice (a1 4) (p.n 4) (c1 4), .slice (a1 5) (p.n 5) (c1 5), .slice (a1 6) (p.n 6) (c1 6), .slice f1 nf1 g1] 45)) [.string q.name, .string q.evr, .string q.arch, .string q.vendor, .slice (a2 0) (q.n 0) (c2 0), .slice (a2 1) (q.n 1) (c2 1), .slice (a2 2) (q.n 2) (c2 2), .slice (a2 3) (q.n 3) (c2 3), .slice (a2 4) (q.n 4) (c2 4), .slice (a2 5) (q.n 5) (c2 5), .slice (a2 6) (q.n 6) (c2 6), .slice f2 nf2 g2] 45
    rw [World.size_alloc] at h1
    exact h1
  have H1 := Lib.hid h1
  have H2 := Lib.hid h2
  clear h1 h2
  have p0 := HB2.out.2.1.cell (j := 0) rfl
  have p1 := HB2.out.2.1.cell (j := 1) rfl
  have p2 := HB2.out.2.1.cell (j := 2) rfl
  have p3 := HB2.out.2.1.cell (j := 3) rfl
  have p4 := HB2.out.2.1.cell (j := 4) rfl
  have p5 := HB2.out.2.1.cell (j := 5) rfl
  have p6 := HB2.out.2.1.cell (j := 6) rfl
  have p7 := HB2.out.2.1.cell (j := 7) rfl
  have p8 := HB2.out.2.1.cell (j := 8) rfl
  have p9 := HB2.out.2.1.cell (j := 9) rfl
  have p10 := HB2.out.2.1.cell (j := 10) rfl
  have p11 := HB2.out.2.1.cell (j := 11) rfl
  go_enter Tryz.func40, Tryz.ntmps40
  go_wp2_with fail
  refine (rlists_c p.name p.evr p.arch p.vendor a1 p.n c1 f1 nf1 g1 w2).mono ?_
  rintro e w3 ⟨l1, rfl, hl1, hb3, hx3⟩
  have HB3 : Hid (Below w2.heap.size w2 w3) := hb3
  have HX3 : Hid (BoxN w3 l1 (listsL fun i => .slice (a1 i) (p.n i) (c1 i)) 42) := hx3
  have HD3 : Hid (BoxN w3 w.heap.size [.string p.name, .string p.evr, .string p.arch, .string p.vendor, .slice (a1 0) (p.n 0) (c1 0), .slice (a1 1) (p.n 1) (c1 1), .slice (a1 2) (p.n 2) (c1 2), .slice (a1 3) (p.n 3) (c1 3), .slice (a1 4) (p.n 4) (c1 4), .slice (a1 5) (p.n 5) (c1 5), .slice (a1 6) (p.n 6) (c1 6), .slice f1 nf1 g1] 45 ∧ BoxN w3 (w.heap.size + 1) [.string q.name, .string q.evr, .string q.arch, .string q.vendor, .slice (a2 0) (q.n 0) (c2 0), .slice (a2 1) (q.n 1) (c2 1), .slice (a2 2) (q.n 2) (c2 2), .slice (a2 3) (q.n 3) (c2 3), .slice (a2 4) (q.n 4) (c2 4), .slice (a2 5) (q.n 5) (c2 5), .slice (a2 6) (q.n 6) (c2 6), .slice f2 nf2 g2] 45) := ⟨HB2.out.2.1.below hb3, HB2.out.2.2.below hb3⟩
  clear e2 hb3 hx3 hl1 p0 p1 p2 p3 p4 p5 p6 p7 p8 p9 p10 p11
  have q0 := HD3.out.2.cell (j := 0) rfl
  have q1 := HD3.out.2.cell (j := 1) rfl
  have q2 := HD3.out.2.cell (j := 2) rfl
  have q3 := HD3.out.2.cell (j := 3) rfl
  have q4 := HD3.out.2.cell (j := 4) rfl
  have q5 := HD3.out.2.cell (j := 5) rfl
  have q6 := HD3.out.2.cell (j := 6) rfl
  have q7 := HD3.out.2.cell (j := 7) rfl
  have q8 := HD3.out.2.cell (j := 8) rfl
  have q9 := HD3.out.2.cell (j := 9) rfl
  have q10 := HD3.out.2.cell (j := 10) rfl
  have q11 := HD3.out.2.cell (j := 11) rfl
  go_wp2_with fail
  refine (rlists_c q.name q.evr q.arch q.vendor a2 q.n c2 f2 nf2 g2 w3).mono ?_
  rintro e w4 ⟨l2, rfl, hl2, hb4, hx4⟩
  have H4 : Hid (Below w.heap.size w w4 ∧ BoxN w4 w.heap.size [.string p.name, .string p.evr, .string p.arch, .string p.vendor, .slice (a1 0) (p.n 0) (c1 0), .slice (a1 1) (p.n 1) (c1 1), .slice (a1 2) (p.n 2) (c1 2), .slice (a1 3) (p.n 3) (c1 3), .slice (a1 4) (p.n 4) (c1 4), .slice (a1 5) (p.n 5) (c1 5), .slice (a1 6) (p.n 6) (c1 6), .slice f1 nf1 g1] 45 ∧ BoxN w4 (w.heap.size + 1) [.string q.name, .string q.evr, .string q.arch, .string q.vendor, .slice (a2 0) (q.n 0) (c2 0), .slice (a2 1) (q.n 1) (c2 1), .slice (a2 2) (q.n 2) (c2 2), .slice (a2 3) (q.n 3) (c2 3), .slice (a2 4) (q.n 4) (c2 4), .slice (a2 5) (q.n 5) (c2 5), .slice (a2 6) (q.n 6) (c2 6), .slice f2 nf2 g2] 45 ∧ BoxN w4 l1 (listsL fun i => .slice (a1 i) (p.n i) (c1 i)) 42 ∧ BoxN w4 l2 (listsL fun i => .slice (a2 i) (q.n i) (c2 i)) 42) :=
    ⟨below_tr (below_tr HB2.out.1 HB3.out) hb4, HD3.out.1.below hb4, HD3.out.2.below hb4, HX3.out.below hb4, hx4⟩
  clear hl2 hb4 hx4 HB2 HB3 HX3 HD3 q0 q1 q2 q3 q4 q5 q6 q7 q8 q9 q10 q11
  go_wp2_with fail
  go_loopw [7] (fun vi wr => ∃ i : Nat, vi = .int .i64 i ∧ i ≤ 7 ∧ Hid (Below w.heap.size w wr ∧ BoxN wr w.heap.size [.string p.name, .string p.evr, .string p.arch, .string p.vendor, .slice (a1 0) (p.n 0) (c1 0), .slice (a1 1) (p.n 1) (c1 1), .slice (a1 2) (p.n 2) (c1 2), .slice (a1 3) (p.n 3) (c1 3), .slice (a1 4) (p.n 4) (c1 4), .slice (a1 5) (p.n 5) (c1 5), .slice (a1 6) (p.n 6) (c1 6), .slice f1 nf1 g1] 45 ∧ BoxN wr (w.heap.size + 1) [.string q.name, .string q.evr, .string q.arch, .string q.vendor, .slice (a2 0) (q.n 0) (c2 0), .slice (a2 1) (q.n 1) (c2 1), .slice (a2 2) (q.n 2) (c2 2), .slice (a2 3) (q.n 3) (c2 3), .slice (a2 4) (q.n 4) (c2 4), .slice (a2 5) (q.n 5) (c2 5), .slice (a2 6) (q.n 6) (c2 6), .slice f2 nf2 g2] 45 ∧ BoxN wr l1 (listsL fun i => .slice (a1 i) (p.n i) (c1 i)) 42 ∧ BoxN wr l2 (listsL fun i => .slice (a2 i) (q.n i) (c2 i)) 42 ∧ ∀ j : Fin 7, j.val < i → mk0 (p.n j) (p.deps j) = mk0 (q.n j) (q.deps j))) (fun vi _ => 7 - (intOf vi).toNat)
  case atStart => exact ⟨0, rfl, Nat.zero_le _, H4.out.1, H4.out.2.1, H4.out.2.2.1, H4.out.2.2.2.1, H4.out.2.2.2.2, fun j h => absurd h (Nat.not_lt_zero _)⟩
  case round =>
    clear H4
    obtain ⟨i, rfl, hin, HT⟩ := hrel
    by_cases hlt : i < 7
    · have hi1 : (i : Int) < 7 := by omega
      have HC : Hid (∀ W : World, Below w.heap.size w W → Calls Tryz.prog 66 #[.slice (a1 ⟨i, hlt⟩) (p.n ⟨i, hlt⟩) (c1 ⟨i, hlt⟩), .slice (a2 ⟨i, hlt⟩) (q.n ⟨i, hlt⟩) (c2 ⟨i, hlt⟩)] W fun e w' => IsB (mk0 (p.n ⟨i, hlt⟩) (p.deps ⟨i, hlt⟩) = mk0 (q.n ⟨i, hlt⟩) (q.deps ⟨i, hlt⟩)) e ∧ Below W.heap.size W w') := fun W hb =>
        rsameList_b (p.n ⟨i, hlt⟩) (p.deps ⟨i, hlt⟩) (q.n ⟨i, hlt⟩) (q.deps ⟨i, hlt⟩) _ _ S1 S2 W ((H1.out.deps ⟨i, hlt⟩).below hb) ((H2.out.deps ⟨i, hlt⟩).below hb)
      have HA : Hid (∀ W : World, W.heap[l1]? = wr.heap[l1]? → W.heap[l2]? = wr.heap[l2]? → W.cell? ⟨l1, i, none⟩ = some (.slice (a1 ⟨i, hlt⟩) (p.n ⟨i, hlt⟩) (c1 ⟨i, hlt⟩)) ∧ W.cell? ⟨l2, i, none⟩ = some (.slice (a2 ⟨i, hlt⟩) (q.n ⟨i, hlt⟩) (c2 ⟨i, hlt⟩))) := fun W e1 e2 =>
        ⟨(HT.out.2.2.2.1.to e1).cell (listsL_at _ hlt), (HT.out.2.2.2.2.1.to e2).cell (listsL_at _ hlt)⟩
      obtain ⟨Q, hQ⟩ : ∃ Q : Prop, (mk0 (p.n ⟨i, hlt⟩) (p.deps ⟨i, hlt⟩) = mk0 (q.n ⟨i, hlt⟩) (q.deps ⟨i, hlt⟩)) = Q := ⟨_, rfl⟩
      rw [hQ] at HC
      have HQ := Lib.hid hQ
      clear hQ
      obtain ⟨x1, hx1⟩ : ∃ x, (Value.slice (a1 ⟨i, hlt⟩) (p.n ⟨i, hlt⟩) (c1 ⟨i, hlt⟩)) = x := ⟨_, rfl⟩
      obtain ⟨x2, hx2⟩ : ∃ x, (Value.slice (a2 ⟨i, hlt⟩) (q.n ⟨i, hlt⟩) (c2 ⟨i, hlt⟩)) = x := ⟨_, rfl⟩
      rw [hx1, hx2] at HC HA
      clear hx1 hx2
      have HSZ : Hid (l1 < wr.heap.size ∧ l2 < wr.heap.size) := ⟨HT.out.2.2.2.1.lt, HT.out.2.2.2.2.1.lt⟩
      go_upto_region 6 with fail
      refine wp_region_ord (fun W => W.heap[l1]? = wr.heap[l1]? ∧ W.heap[l2]? = wr.heap[l2]?) 9 [(true, 0), (true, 1), (true, 2), (true, 3), (true, 4), (true, 5), (true, 6), (true, 7), (false, 8), (false, 9)] (by kernel_rfl) (by kernel_rfl) (fun _ _ d _ _ h => by cases d <;> exact h) ⟨rfl, rfl⟩ ?_
      intro wd hwd hS
      simp only [ordOps, List.map_cons, List.map_nil, Array.getD_eq_getD_getElem?, List.getElem?_toArray, List.getElem?_cons_succ, List.getElem?_cons_zero, Option.getD_some]
      iterate 8 (refine wpOrd_q rfl _ (fun w' hS' K hK => (by obtain ⟨q1, q2⟩ := HA.out w' hS'.1 hS'.2; clear hS'; go_simp; exact hK)) (fun K hK => ?_); go_simp; refine hK _ ?_; clear hK K)
      have HBd : Hid (Below wr.heap.size wr wd) := by rw [hwd.out]; exact below_dr1 (Below.refl _ _)
      refine wpOrd_l rfl (fun K hK => ?_)
      go_simp
      refine (HC.out wd (below_tr HT.out.1 HBd.out)).mono ?_
      rintro e w5 ⟨⟨bb, rfl, hbb⟩, hb5⟩
      have HBB := Lib.hid hbb
      clear hbb
      have HB5 : Hid (Below wr.heap.size wr w5) := below_tr HBd.out hb5
      go_simp
      refine hK _ _ ⟨fun _ => ⟨HB5.out.block _ HSZ.out.1, HB5.out.block _ HSZ.out.2⟩, ?_⟩
      clear hK K hb5
      refine wpOrd_l rfl (fun K hK => ?_)
      go_simp
      refine hK _ _ ⟨fun h => absurd rfl h, ?_⟩
      clear hK K
      refine wpOrd_nil ?_
      have HN : Hid (Below w.heap.size w w5 ∧ BoxN w5 w.heap.size [.string p.name, .string p.evr, .string p.arch, .string p.vendor, .slice (a1 0) (p.n 0) (c1 0), .slice (a1 1) (p.n 1) (c1 1), .slice (a1 2) (p.n 2) (c1 2), .slice (a1 3) (p.n 3) (c1 3), .slice (a1 4) (p.n 4) (c1 4), .slice (a1 5) (p.n 5) (c1 5), .slice (a1 6) (p.n 6) (c1 6), .slice f1 nf1 g1] 45 ∧ BoxN w5 (w.heap.size + 1) [.string q.name, .string q.evr, .string q.arch, .string q.vendor, .slice (a2 0) (q.n 0) (c2 0), .slice (a2 1) (q.n 1) (c2 1), .slice (a2 2) (q.n 2) (c2 2), .slice (a2 3) (q.n 3) (c2 3), .slice (a2 4) (q.n 4) (c2 4), .slice (a2 5) (q.n 5) (c2 5), .slice (a2 6) (q.n 6) (c2 6), .slice f2 nf2 g2] 45 ∧ BoxN w5 l1 (listsL fun i => .slice (a1 i) (p.n i) (c1 i)) 42 ∧ BoxN w5 l2 (listsL fun i => .slice (a2 i) (q.n i) (c2 i)) 42) :=
        ⟨below_tr HT.out.1 HB5.out, HT.out.2.1.below HB5.out, HT.out.2.2.1.below HB5.out, HT.out.2.2.2.1.below HB5.out, HT.out.2.2.2.2.1.below HB5.out⟩
      clear hS hwd
      cases bb with
      | true =>
        have HQQ : Hid (mk0 (p.n ⟨i, hlt⟩) (p.deps ⟨i, hlt⟩) = mk0 (q.n ⟨i, hlt⟩) (q.deps ⟨i, hlt⟩)) := Lib.hid (by rw [HQ.out]; exact HBB.out.1 rfl)
        go_wp2_with fail
        go_roundw
        case rel => exact ⟨i + 1, by go_num, by omega, HN.out.1, HN.out.2.1, HN.out.2.2.1, HN.out.2.2.2.1, HN.out.2.2.2.2, fun j hj => by
          by_cases e : j.val = i
          · have : j = ⟨i, hlt⟩ := Fin.ext e
            rw [this]
            exact HQQ.out
          · exact HT.out.2.2.2.2.2 j (by omega)⟩
        case measure => simp [intOf]; omega
      | false =>
        have HZ : Hid (¬ p = q) := Lib.hid (by
          intro e
          have h1 : Q := by
            rw [← HQ.out]
            rw [e]
          have := HBB.out.2 h1
          cases this)
        go_wp2_with fail
        go_ret
        exact ⟨IsB.no HZ.out, HN.out.1⟩
    · have hi1 : ¬ (i : Int) < 7 := by omega
      obtain rfl : i = 7 := by omega
      have HALL : Hid (∀ j : Fin 7, mk0 (p.n j) (p.deps j) = mk0 (q.n j) (q.deps j)) := Lib.hid fun j => HT.out.2.2.2.2.2 j j.isLt
      have HS := Lib.hid (sameT_b p.files q.files (.slice f1 nf1 g1) (.slice f2 nf2 g2) S1 S2 wr (H1.out.files.below HT.out.1) (H2.out.files.below HT.out.1))
      have p11 := HT.out.2.1.cell (j := 11) rfl
      have q11 := HT.out.2.2.1.cell (j := 11) rfl
      go_wp2_with fail
      refine HS.out.mono ?_
      rintro e w5 ⟨⟨bb, rfl, hbb⟩, hb5⟩
      have HBB := Lib.hid hbb
      have r0 := (HT.out.2.1.below hb5).cell (j := 0) rfl
      have s0 := (HT.out.2.2.1.below hb5).cell (j := 0) rfl
      have r1 := (HT.out.2.1.below hb5).cell (j := 1) rfl
      have s1 := (HT.out.2.2.1.below hb5).cell (j := 1) rfl
      have r2 := (HT.out.2.1.below hb5).cell (j := 2) rfl
      have s2 := (HT.out.2.2.1.below hb5).cell (j := 2) rfl
      have r3 := (HT.out.2.1.below hb5).cell (j := 3) rfl
      have s3 := (HT.out.2.2.1.below hb5).cell (j := 3) rfl
      have HB5 : Hid (Below w.heap.size w w5) := below_tr HT.out.1 hb5
      have HPE : Hid (p.files = q.files → p.name = q.name → p.evr = q.evr → p.arch = q.arch → p.vendor = q.vendor → p = q) := Lib.hid fun e1 e2 e3 e4 e5 => pkg_ext e2 e3 e4 e5 e1 fun j => mk0_list (HALL.out j)
      have HPN : Hid (p = q → p.files = q.files ∧ p.name = q.name ∧ p.evr = q.evr ∧ p.arch = q.arch ∧ p.vendor = q.vendor) := Lib.hid fun e => by rw [e]; exact ⟨rfl, rfl, rfl, rfl, rfl⟩
      clear p11 q11 hb5 hbb HALL HT H1 H2 HS
      generalize p.name = pn at *
      generalize q.name = qn at *
      generalize p.evr = pe at *
      generalize q.evr = qe at *
      generalize p.arch = pa at *
      generalize q.arch = qa at *
      generalize p.vendor = pv at *
      generalize q.vendor = qv at *
      cases bb with
      | false =>
        go_wp2_with fail
        go_ret
        exact ⟨IsB.no fun e => (by have := HBB.out.2 (HPN.out e).1; cases this), HB5.out⟩
      | true =>
        by_cases e0 : pn = qn
        · by_cases e1 : pe = qe
          · by_cases e2 : pa = qa
            · by_cases e3 : pv = qv
              · have HY := Lib.hid (HPE.out (HBB.out.1 rfl) e0 e1 e2 e3)
                subst e0 e1 e2 e3
                go_wp2_with fail
                go_ret
                exact ⟨by simpa using IsB.yes HY.out, HB5.out⟩
              · have hz : (pv.toList == qv.toList) = false := by rw [beqS]; exact decide_eq_false e3
                go_wp2_with fail
                go_ret
                exact ⟨by simpa [e3] using IsB.no (fun e => e3 (HPN.out e).2.2.2.2), HB5.out⟩
            · have hz : (pa.toList == qa.toList) = false := by rw [beqS]; exact decide_eq_false e2
              go_wp2_with fail
              go_ret
              exact ⟨by simpa [e2] using IsB.no (fun e => e2 (HPN.out e).2.2.2.1), HB5.out⟩
          · have hz : (pe.toList == qe.toList) = false := by rw [beqS]; exact decide_eq_false e1
            go_wp2_with fail
            go_ret
            exact ⟨by simpa [e1] using IsB.no (fun e => e1 (HPN.out e).2.2.1), HB5.out⟩
        · have hz : (pn.toList == qn.toList) = false := by rw [beqS]; exact decide_eq_false e0
          go_wp2_with fail
          go_ret
          exact ⟨by simpa [e0] using IsB.no (fun e => e0 (HPN.out e).2.1), HB5.out⟩
end Go.Proofs.YtbdankpkdhhlmaaGreat
namespace Go.Proofs.YtbdankpkdhhlmaaGreat
set_option linter.unusedVariables false
set_option linter.unusedSimpArgs false
open Go.RowKit Go.Maps

theorem repo_ext {r s : RepoT} (h1 : r.name = s.name) (h2 : r.prio = s.prio) (h3 : r.inst = s.inst) (h4 : r.pkgs = s.pkgs) : r = s := by
  cases r
  cases s
  simp only at h1 h2 h3 h4
  subst h1 h2 h3 h4
  rfl
set_option maxHeartbeats 8000000 in
set_option maxRecDepth 100000 in
/-- SameRepo. -/
theorem sameRepo_b (r1 r2 : RepoT) (a1 : Option Addr) (n1 c1 : Nat) (a2 : Option Addr) (n2 c2 : Nat) (S1 S2 : Nat → Prop) (w : World) (h1 : PkgsV w S1 r1.pkgs (.slice a1 n1 c1)) (h2 : PkgsV w S2 r2.pkgs (.slice a2 n2 c2)) :
    Calls Tryz.prog 19 #[.agg #[.string r1.name, .int .i64 r1.prio, .bool r1.inst, .slice a1 n1 c1], .agg #[.string r2.name, .int .i64 r2.prio, .bool r2.inst, .slice a2 n2 c2]] w fun e w' => IsB (r1 = r2) e ∧ Below w.heap.size w w' := by
  obtain ⟨hn1, hb1, hp1⟩ := pkgs_at h1
  obtain ⟨hn2, hb2, hp2⟩ := pkgs_at h2
  have HP1 := Lib.hid h1
  have HP2 := Lib.hid h2
  clear h1 h2 hp1 hp2
  have HN1 := Lib.hid hn1
  have HN2 := Lib.hid hn2
  clear hn1 hn2
  obtain ⟨w2, e2⟩ : ∃ w2, (w.alloc (.cells #[.string r1.name, .int .i64 r1.prio, .bool r1.inst, .slice a1 n1 c1] 40)).alloc (.cells #[.string r2.name, .int .i64 r2.prio, .bool r2.inst, .slice a2 n2 c2] 40) = w2 := ⟨_, rfl⟩
  have HB2 : Hid (Below w.heap.size w w2 ∧ BoxN w2 w.heap.size [.string r1.name, .int .i64 r1.prio, .bool r1.inst, .slice a1 n1 c1] 40 ∧ BoxN w2 (w.heap.size + 1) [.string r2.name, .int .i64 r2.prio, .bool r2.inst, .slice a2 n2 c2] 40) := by
    rw [← e2]
    refine ⟨below2 _ _ _, (boxN_alloc w [.string r1.name, .int .i64 r1.prio, .bool r1.inst, .slice a1 n1 c1] 40).below (below1 _ _), ?_⟩
    have h1 := boxN_alloc (w.alloc (.cells #[.string r1.name, .int .i64 r1.prio, .bool r1.inst, .slice a1 n1 c1] 40)) [.string r2.name, .int .i64 r2.prio, .bool r2.inst, .slice a2 n2 c2] 40
    rw [World.size_alloc] at h1
    exact h1
  have p0 := HB2.out.2.1.cell (j := 0) rfl
  have p1 := HB2.out.2.1.cell (j := 1) rfl
  have p2 := HB2.out.2.1.cell (j := 2) rfl
  have p3 := HB2.out.2.1.cell (j := 3) rfl
  have q0 := HB2.out.2.2.cell (j := 0) rfl
  have q1 := HB2.out.2.2.cell (j := 1) rfl
  have q2 := HB2.out.2.2.cell (j := 2) rfl
  have q3 := HB2.out.2.2.cell (j := 3) rfl
  by_cases ha : r1.name = r2.name
  case neg =>
    have HZ : Hid (¬ r1 = r2) := Lib.hid (fun e => ha (by rw [e]))
    have hz1 : (r1.name.toList == r2.name.toList) = false := by rw [beqS]; exact decide_eq_false ha
    clear ha
    go_enter Tryz.func19, Tryz.ntmps19
    go_wp2_with fail
    go_ret
    exact ⟨IsB.no HZ.out, HB2.out.1⟩
  have hz1 : (r1.name.toList == r2.name.toList) = true := by rw [beqS]; exact decide_eq_true ha
  replace ha := Lib.hid ha
  by_cases hb : r1.prio = r2.prio
  case neg =>
    have HZ : Hid (¬ r1 = r2) := Lib.hid (fun e => hb (by rw [e]))
    go_enter Tryz.func19, Tryz.ntmps19
    go_wp2_with fail
    go_ret
    exact ⟨IsB.no HZ.out, HB2.out.1⟩
  rw [hb] at e2 HB2 p1 ⊢
  replace hb := Lib.hid hb
  by_cases hc : r1.inst = r2.inst
  case neg =>
    have HZ : Hid (¬ r1 = r2) := Lib.hid (fun e => hc (by rw [e]))
    go_enter Tryz.func19, Tryz.ntmps19
    go_wp2_with fail
    go_ret
    exact ⟨IsB.no HZ.out, HB2.out.1⟩
  rw [hc] at e2 HB2 p2 ⊢
  replace hc := Lib.hid hc
  by_cases hd : n1 = n2
  case neg =>
    have HZ : Hid (¬ r1 = r2) := Lib.hid (fun e => hd (by have h1 := HN1.out; have h2 := HN2.out; rw [e] at h1; omega))
    have hz : ¬ (n1 : Int) = (n2 : Int) := by omega
    go_enter Tryz.func19, Tryz.ntmps19
    go_wp2_with fail
    go_ret
    exact ⟨IsB.no HZ.out, HB2.out.1⟩
  subst hd
  go_enter Tryz.func19, Tryz.ntmps19
  go_wp2_with fail
  have HABC := Lib.hid (And.intro ha.out (And.intro hb.out hc.out))
  clear e2 p0 p1 p2 p3 q0 q1 q2 q3 ha hb hc hz1
  go_loopw [5] (fun vi wr => ∃ i : Nat, vi = .int .i64 i ∧ i ≤ n1 ∧ Hid (Below w.heap.size w wr ∧ BoxN wr w.heap.size [.string r1.name, .int .i64 r2.prio, .bool r2.inst, .slice a1 n1 c1] 40 ∧ BoxN wr (w.heap.size + 1) [.string r2.name, .int .i64 r2.prio, .bool r2.inst, .slice a2 n1 c2] 40 ∧ ∀ j, j < i → r1.pkgs[j]? = r2.pkgs[j]?)) (fun vi _ => n1 - (intOf vi).toNat)
  case atStart => exact ⟨0, rfl, Nat.zero_le _, HB2.out.1, HB2.out.2.1, HB2.out.2.2, fun j h => absurd h (Nat.not_lt_zero _)⟩
  case round =>
    clear HB2
    obtain ⟨i, rfl, hin, HT⟩ := hrel
    have p3 := HT.out.2.1.cell (j := 3) rfl
    by_cases hlt : i < n1
    · have hi1 : (i : Int) < (n1 : Int) := by omega
      have hi2 : i < r1.pkgs.length := by have := HN1.out; omega
      have hi3 : i < r2.pkgs.length := by have := HN2.out; omega
      obtain ⟨aa, cc, he1, _, hin1⟩ := HP1.out
      injection he1 with he1 he2 he3
      subst he1 he3
      clear he2
      obtain ⟨aa, cc, he1, _, hin2⟩ := HP2.out
      injection he1 with he1 he2 he3
      subst he1 he3
      clear he2
      obtain ⟨b1, o1, rfl, _, k1⟩ := hin1 (by intro e; rw [e] at hi2; exact absurd hi2 (Nat.not_lt_zero _))
      obtain ⟨b2, o2, rfl, _, k2⟩ := hin2 (by intro e; rw [e] at hi3; exact absurd hi3 (Nat.not_lt_zero _))
      obtain ⟨v1, f1, d1, g1⟩ := k1 i hi2
      obtain ⟨v2, f2, d2, g2⟩ := k2 i hi3
      have HX : Hid (r1.pkgs[i]? = some r1.pkgs[i] ∧ r2.pkgs[i]? = some r2.pkgs[i]) := Lib.hid ⟨List.getElem?_eq_getElem hi2, List.getElem?_eq_getElem hi3⟩
      obtain ⟨p, hp⟩ : ∃ p, r1.pkgs[i] = p := ⟨_, rfl⟩
      obtain ⟨q, hq⟩ : ∃ q, r2.pkgs[i] = q := ⟨_, rfl⟩
      rw [hp] at d1 g1 HX
      rw [hq] at d2 g2 HX
      obtain ⟨xa, xc, rfl⟩ := d1.slices
      obtain ⟨ya, yc, rfl⟩ := d2.slices
      obtain ⟨xf, xg, hf, _⟩ := d1.files
      subst hf
      obtain ⟨yf, yg, hf, _⟩ := d2.files
      subst hf
      have HC : Hid (∀ W : World, Below w.heap.size w W → Calls Tryz.prog 40 #[.agg #[.string p.name, .string p.evr, .string p.arch, .string p.vendor, .slice (xa 0) (p.n 0) (xc 0), .slice (xa 1) (p.n 1) (xc 1), .slice (xa 2) (p.n 2) (xc 2), .slice (xa 3) (p.n 3) (xc 3), .slice (xa 4) (p.n 4) (xc 4), .slice (xa 5) (p.n 5) (xc 5), .slice (xa 6) (p.n 6) (xc 6), .slice xf p.files.length xg], .agg #[.string q.name, .string q.evr, .string q.arch, .string q.vendor, .slice (ya 0) (q.n 0) (yc 0), .slice (ya 1) (q.n 1) (yc 1), .slice (ya 2) (q.n 2) (yc 2), .slice (ya 3) (q.n 3) (yc 3), .slice (ya 4) (q.n 4) (yc 4), .slice (ya 5) (q.n 5) (yc 5), .slice (ya 6) (q.n 6) (yc 6), .slice yf q.files.length yg]] W fun e w' => IsB (p = q) e ∧ Below W.heap.size W w') := fun W hb => samePkg_b p q xa xc xf p.files.length xg ya yc yf q.files.length yg S1 S2 W (d1.below hb) (d2.below hb)
      have HL1 : Hid (b1 < w.heap.size ∧ b2 < w.heap.size) := ⟨World.block_lt_of_cell? w _ (g1 0 _ rfl), World.block_lt_of_cell? w _ (g2 0 _ rfl)⟩
      have HG1 := Lib.hid g1
      have HG2 := Lib.hid g2
      have HA : Hid (∀ W : World, W.heap[w.heap.size]? = wr.heap[w.heap.size]? → W.heap[w.heap.size + 1]? = wr.heap[w.heap.size + 1]? → W.heap[b1]? = w.heap[b1]? → W.heap[b2]? = w.heap[b2]? →
          W.cell? ⟨w.heap.size, 3, none⟩ = some (.slice (some ⟨b1, o1, none⟩) n1 c1) ∧ W.cell? ⟨w.heap.size + 1, 3, none⟩ = some (.slice (some ⟨b2, o2, none⟩) n1 c2) ∧
          (W.cell? ⟨b1, o1 + i * 12, none⟩ = some (.string p.name) ∧ W.cell? ⟨b1, o1 + i * 12 + 1, none⟩ = some (.string p.evr) ∧ W.cell? ⟨b1, o1 + i * 12 + 2, none⟩ = some (.string p.arch) ∧ W.cell? ⟨b1, o1 + i * 12 + 3, none⟩ = some (.string p.vendor) ∧ W.cell? ⟨b1, o1 + i * 12 + 4, none⟩ = some (.slice (xa 0) (p.n 0) (xc 0)) ∧ W.cell? ⟨b1, o1 + i * 12 + 5, none⟩ = some (.slice (xa 1) (p.n 1) (xc 1)) ∧ W.cell? ⟨b1, o1 + i * 12 + 6, none⟩ = some (.slice (xa 2) (p.n 2) (xc 2)) ∧ W.cell? ⟨b1, o1 + i * 12 + 7, none⟩ = some (.slice (xa 3) (p.n 3) (xc 3)) ∧ W.cell? ⟨b1, o1 + i * 12 + 8, none⟩ = some (.slice (xa 4) (p.n 4) (xc 4)) ∧ W.cell? ⟨b1, o1 + i * 12 + 9, none⟩ = some (.slice (xa 5) (p.n 5) (xc 5)) ∧ W.cell? ⟨b1, o1 + i * 12 + 10, none⟩ = some (.slice (xa 6) (p.n 6) (xc 6)) ∧ W.cell? ⟨b1, o1 + i * 12 + 11, none⟩ = some (.slice xf p.files.length xg)) ∧ (W.cell? ⟨b2, o2 + i * 12, none⟩ = some (.string q.name) ∧ W.cell? ⟨b2, o2 + i * 12 + 1, none⟩ = some (.string q.evr) ∧ W.cell? ⟨b2, o2 + i * 12 + 2, none⟩ = some (.string q.arch) ∧ W.cell? ⟨b2, o2 + i * 12 + 3, none⟩ = some (.string q.vendor) ∧ W.cell? ⟨b2, o2 + i * 12 + 4, none⟩ = some (.slice (ya 0) (q.n 0) (yc 0)) ∧ W.cell? ⟨b2, o2 + i * 12 + 5, none⟩ = some (.slice (ya 1) (q.n 1) (yc 1)) ∧ W.cell? ⟨b2, o2 + i * 12 + 6, none⟩ = some (.slice (ya 2) (q.n 2) (yc 2)) ∧ W.cell? ⟨b2, o2 + i * 12 + 7, none⟩ = some (.slice (ya 3) (q.n 3) (yc 3)) ∧ W.cell? ⟨b2, o2 + i * 12 + 8, none⟩ = some (.slice (ya 4) (q.n 4) (yc 4)) ∧ W.cell? ⟨b2, o2 + i * 12 + 9, none⟩ = some (.slice (ya 5) (q.n 5) (yc 5)) ∧ W.cell? ⟨b2, o2 + i * 12 + 10, none⟩ = some (.slice (ya 6) (q.n 6) (yc 6)) ∧ W.cell? ⟨b2, o2 + i * 12 + 11, none⟩ = some (.slice yf q.files.length yg))) := by
        intro W e1 e2 e3 e4
        have k1 := HG1.out.keep e3
        have k2 := HG2.out.keep e4
        exact ⟨(HT.out.2.1.to e1).cell (j := 3) rfl, (HT.out.2.2.1.to e2).cell (j := 3) rfl, ⟨k1 0 _ rfl, k1 1 _ rfl, k1 2 _ rfl, k1 3 _ rfl, k1 4 _ rfl, k1 5 _ rfl, k1 6 _ rfl, k1 7 _ rfl, k1 8 _ rfl, k1 9 _ rfl, k1 10 _ rfl, k1 11 _ rfl⟩, ⟨k2 0 _ rfl, k2 1 _ rfl, k2 2 _ rfl, k2 3 _ rfl, k2 4 _ rfl, k2 5 _ rfl, k2 6 _ rfl, k2 7 _ rfl, k2 8 _ rfl, k2 9 _ rfl, k2 10 _ rfl, k2 11 _ rfl⟩⟩
      have HSZ : Hid (w.heap.size < wr.heap.size ∧ w.heap.size + 1 < wr.heap.size) := ⟨HT.out.2.1.lt, HT.out.2.2.1.lt⟩
      clear k1 k2 d1 d2 g1 g2 hin1 hin2 hp hq
      generalize p.files.length = pfl at HC HA
      generalize q.files.length = qfl at HC HA
      go_upto_region 6 with fail
      refine wp_region_ord (fun W => W.heap[w.heap.size]? = wr.heap[w.heap.size]? ∧ W.heap[w.heap.size + 1]? = wr.heap[w.heap.size + 1]? ∧ W.heap[b1]? = w.heap[b1]? ∧ W.heap[b2]? = w.heap[b2]?) 11 [(true, 0), (true, 1), (true, 2), (true, 3), (true, 4), (true, 5), (true, 6), (true, 7), (true, 8), (true, 9), (false, 10), (false, 11)] (by kernel_rfl) (by kernel_rfl) (fun _ _ d _ _ h => by cases d <;> exact h) ⟨rfl, rfl, HT.out.1.block b1 HL1.out.1, HT.out.1.block b2 HL1.out.2⟩ ?_
      intro wd hwd hS
      simp only [ordOps, List.map_cons, List.map_nil, Array.getD_eq_getD_getElem?, List.getElem?_toArray, List.getElem?_cons_succ, List.getElem?_cons_zero, Option.getD_some]
      iterate 10 (refine wpOrd_q rfl _ (fun w' hS' K hK => (by obtain ⟨q1, q2, ⟨t0, t1, t2, t3, t4, t5, t6, t7, t8, t9, t10, t11⟩, ⟨s0, s1, s2, s3, s4, s5, s6, s7, s8, s9, s10, s11⟩⟩ := HA.out w' hS'.1 hS'.2.1 hS'.2.2.1 hS'.2.2.2; clear hS'; go_simp; exact hK)) (fun K hK => ?_); go_simp; refine hK _ ?_; clear hK K)
      have HBd : Hid (Below wr.heap.size wr wd) := by rw [hwd.out]; exact below_dr1 (Below.refl _ _)
      refine wpOrd_l rfl (fun K hK => ?_)
      go_simp
      refine (HC.out wd (below_tr HT.out.1 HBd.out)).mono ?_
      rintro e w4 ⟨⟨bb, rfl, hbb⟩, hb4⟩
      have HBB := Lib.hid hbb
      have HB4 : Hid (Below wr.heap.size wr w4) := below_tr HBd.out hb4
      clear hbb
      go_simp
      refine hK _ _ ⟨fun _ => ⟨HB4.out.block _ HSZ.out.1, HB4.out.block _ HSZ.out.2, (HB4.out.block _ (Nat.lt_of_lt_of_le HL1.out.1 HT.out.1.size)).trans (HT.out.1.block b1 HL1.out.1), (HB4.out.block _ (Nat.lt_of_lt_of_le HL1.out.2 HT.out.1.size)).trans (HT.out.1.block b2 HL1.out.2)⟩, ?_⟩
      clear hK K hb4
      refine wpOrd_l rfl (fun K hK => ?_)
      go_simp
      refine hK _ _ ⟨fun h => absurd rfl h, ?_⟩
      clear hK K
      refine wpOrd_nil ?_
      have HN : Hid (Below w.heap.size w w4 ∧ BoxN w4 w.heap.size [.string r1.name, .int .i64 r2.prio, .bool r2.inst, .slice (some ⟨b1, o1, none⟩) n1 c1] 40 ∧ BoxN w4 (w.heap.size + 1) [.string r2.name, .int .i64 r2.prio, .bool r2.inst, .slice (some ⟨b2, o2, none⟩) n1 c2] 40) := ⟨below_tr HT.out.1 HB4.out, HT.out.2.1.below HB4.out, HT.out.2.2.1.below HB4.out⟩
      clear hS hwd p3
      cases bb with
      | true =>
        have HQQ : Hid (p = q) := Lib.hid (HBB.out.1 rfl)
        go_wp2_with fail
        go_roundw
        case rel => exact ⟨i + 1, by go_num, by omega, HN.out.1, HN.out.2.1, HN.out.2.2, fun j hj => by
          by_cases e : j = i
          · rw [e, HX.out.1, HX.out.2, HQQ.out]
          · exact HT.out.2.2.2 j (by omega)⟩
        case measure => simp [intOf]; omega
      | false =>
        have HZ : Hid (¬ r1 = r2) := Lib.hid (by
          intro e
          have h1 := HX.out.1
          rw [e, HX.out.2] at h1
          have := HBB.out.2 (Option.some.inj h1).symm
          cases this)
        go_wp2_with fail
        go_ret
        exact ⟨IsB.no HZ.out, HN.out.1⟩
    · have hi1 : ¬ (i : Int) < (n1 : Int) := by omega
      have HZ : Hid (r1 = r2) := Lib.hid (by
        refine repo_ext HABC.out.1 HABC.out.2.1 HABC.out.2.2 (List.ext_getElem? fun j => ?_)
        by_cases hj : j < i
        · exact HT.out.2.2.2 j hj
        · have := HN1.out
          have := HN2.out
          rw [List.getElem?_eq_none (by omega), List.getElem?_eq_none (by omega)])
      go_wp2_with fail
      go_ret
      exact ⟨IsB.yes HZ.out, HT.out.1⟩
end Go.Proofs.YtbdankpkdhhlmaaGreat
