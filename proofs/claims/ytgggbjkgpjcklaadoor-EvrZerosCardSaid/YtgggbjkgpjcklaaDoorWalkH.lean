/-
  The first of two texts that is one; how two versions' parts compare: the contracts. Helper text; the conditions are those typed.
-/
import Derived.Test.YtgggbjkgpjcklaaDoorWalkG
import Derived.Test.YtgggbjkgpjcklaaDoorMono
namespace Go.Proofs.YtgggbjkgpjcklaaDoor
set_option linter.unusedVariables false
set_option linter.unusedSimpArgs false
open Go.RowKit

def orS (x y : ByteArray) : ByteArray := if x.size = 0 then y else x

theorem ors_c (x y : ByteArray) (b : Nat) (w : World) (h0 : w.cell? ⟨b, 0, none⟩ = some (.string x)) (h1 : w.cell? ⟨b, 1, none⟩ = some (.string y)) :
    Calls Tryd.prog 45 #[.slice (some ⟨b, 0, none⟩) 2 2] w fun e w' => e = .returned (.string (orS x y)) ∧ w = w' := by
  go_enter Tryd.func45, Tryd.ntmps45
  go_wp2
  go_loopw [5, 8] (fun vv vi wr => ∃ k : Nat, k ≤ 2 ∧ vi = .int .i64 k ∧ w = wr ∧ Hid ((1 ≤ k → x.size = 0) ∧ (2 ≤ k → y.size = 0))) (fun _ vi _ => 2 - (intOf vi).toNat)
  case atStart => exact ⟨0, by omega, rfl, rfl, by omega, by omega⟩
  case round =>
    obtain ⟨k, hk, rfl, rfl, HK⟩ := hrel
    have hks : k = 0 ∨ k = 1 ∨ k = 2 := by omega
    rcases hks with rfl | rfl | rfl
    · by_cases hx : x.size = 0
      · have HX := Lib.hid hx
        obtain rfl := bs_zero hx
        clear hx
        go_wp2
        go_roundw
        case rel => exact ⟨1, by omega, by go_num, trivial, fun _ => HX.out, by omega⟩
        case measure => simp [intOf]
      · have hB := bs_nonempty (s := x) (by omega)
        have HX := Lib.hid hx
        clear hx
        go_wp2
        go_ret
        exact ⟨by rw [show orS x y = x from if_neg HX.out]; rfl, rfl⟩
    · by_cases hx : y.size = 0
      · have HX := Lib.hid hx
        obtain rfl := bs_zero hx
        clear hx
        go_wp2
        go_roundw
        case rel => exact ⟨2, by omega, by go_num, trivial, fun _ => HK.out.1 (by omega), fun _ => HX.out⟩
        case measure => simp [intOf]
      · have hB := bs_nonempty (s := y) (by omega)
        have HX := Lib.hid hx
        have h0 := Lib.hid (HK.out.1 (by omega))
        clear hx
        go_wp2
        go_ret
        exact ⟨by rw [show orS x y = y from if_pos h0.out]; rfl, rfl⟩
    · have e1 := Lib.hid (HK.out.1 (by omega))
      have e2 := Lib.hid (HK.out.2 (by omega))
      go_wp2
      go_ret
      exact ⟨by rw [show orS x y = y from if_pos e1.out, bs_zero e2.out]; rfl, rfl⟩

theorem orS_le {x y : ByteArray} {n : Nat} (hx : x.size ≤ n) (hy : y.size ≤ n) : (orS x y).size ≤ n := by
  unfold orS; split <;> assumption
theorem bs_orS (x : ByteArray) : bs (orS x ⟨#[48]⟩) = or0 (bs x) := by
  unfold orS or0
  by_cases h : x.size = 0
  · rw [if_pos h, if_pos (bs_nil.2 h)]
  · rw [if_neg h, if_neg (fun e => h (bs_nil.1 e))]

theorem below_tr {a b c : World} (h : Below a.heap.size a b) (k : Below b.heap.size b c) : Below a.heap.size a c := h.trans (below_to k h.size)
theorem cell_tr {W W' : World} (h : Below W.heap.size W W') {b o : Nat} {v : Value} (hc : W.cell? ⟨b, o, none⟩ = some v) : W'.cell? ⟨b, o, none⟩ = some v :=
  (h.cell (p := ⟨b, o, none⟩) (World.block_lt_of_cell? W _ hc)).trans hc

/-- Two cells, as a slice. -/
def TwoAt (x y : Value) (v : Value) (W : World) : Prop := ∃ b, v = .slice (some ⟨b, 0, none⟩) 2 2 ∧ W.cell? ⟨b, 0, none⟩ = some x ∧ W.cell? ⟨b, 1, none⟩ = some y
theorem TwoAt.tr {x y v : Value} {W W' : World} (h : Below W.heap.size W W') (hc : TwoAt x y v W) : TwoAt x y v W' := by
  obtain ⟨b, h1, h2, h3⟩ := hc
  exact ⟨b, h1, cell_tr h h2, cell_tr h h3⟩
theorem TwoAt.new (W : World) (x y : Value) (t : TypeId) : TwoAt x y (.slice (some ⟨W.heap.size, 0, none⟩) 2 2) (W.alloc (.cells #[x, y] t)) := ⟨_, rfl, cell_two0 _ _ _ _, cell_two1 _ _ _ _⟩

/-- What the operations of region 3 of parts yield. -/
def partsV (H : Nat) (c d d2 : Int) (v1 r1 v2 r2 : ByteArray) (i : Nat) (v : Value) (W : World) : Prop :=
  match i with
  | 0 => v = .int .i64 c
  | 1 => v = .pointer (some ⟨H, 1, none⟩)
  | 2 => v = .string v1
  | 3 => v = .pointer (some ⟨H + 1, 1, none⟩)
  | 4 => v = .string v2
  | 5 => v = .int .i64 d
  | 6 => TwoAt (.int .i64 c) (.int .i64 d) v W
  | 7 => v = .int .i64 (or2 c d)
  | 8 => v = .pointer (some ⟨H, 2, none⟩)
  | 9 => v = .string r1
  | 10 => TwoAt (.string r1) (.string ⟨#[48]⟩) v W
  | 11 => v = .string (orS r1 ⟨#[48]⟩)
  | 12 => v = .pointer (some ⟨H + 1, 2, none⟩)
  | 13 => v = .string r2
  | 14 => TwoAt (.string r2) (.string ⟨#[48]⟩) v W
  | 15 => v = .string (orS r2 ⟨#[48]⟩)
  | 16 => v = .int .i64 d2
  | 17 => v = .int .i64 (or2 c d)
  | 18 => v = .int .i64 d2
  | _ => True
theorem partsV_tr {H : Nat} {c d d2 : Int} {v1 r1 v2 r2 : ByteArray} (W W' : World) (h : Below W.heap.size W W') (i : Nat) (v : Value) (hv : partsV H c d d2 v1 r1 v2 r2 i v W) : partsV H c d d2 v1 r1 v2 r2 i v W' := by
  unfold partsV at *
  split at hv <;> first | exact hv | exact hv.tr h

theorem cell_struct (w : World) (x y z : Value) (t : TypeId) : (w.alloc (.cells #[x, y, z] t)).cell? ⟨w.heap.size, 1, none⟩ = some y ∧ (w.alloc (.cells #[x, y, z] t)).cell? ⟨w.heap.size, 2, none⟩ = some z := by
  have := heap_alloc_new w (.cells #[x, y, z] t)
  unfold World.cell?
  simp only [this]
  exact ⟨rfl, rfl⟩

set_option maxHeartbeats 1000000 in
set_option maxRecDepth 100000 in
theorem parts_deb (e1 v1 r1 e2 v2 r2 : ByteArray) (he1 : e1.size ≤ maxLen) (he2 : e2.size ≤ maxLen) (hv1 : v1.size ≤ maxLen) (hv2 : v2.size ≤ maxLen) (hr1 : r1.size ≤ maxLen) (hr2 : r2.size ≤ maxLen) (w : World) :
    Calls Tryd.prog 32 #[.int .i64 2, .agg #[.string e1, .string v1, .string r1], .agg #[.string e2, .string v2, .string r2]] w fun e w' =>
      e = .returned (.tuple #[.int .i64 (or2 (cmpN (bs e1) (bs e2)) (debT (bs v1) (bs v2))), .int .i64 (debT (or0 (bs r1)) (or0 (bs r2)))]) ∧ Below w.heap.size w w' := by
  have HN := Lib.hid (numbers_c e1 e2 he1 he2)
  have HD := Lib.hid (deb_c v1 v2 hv1 hv2)
  have hd2 := deb_c (orS r1 ⟨#[48]⟩) (orS r2 ⟨#[48]⟩) (orS_le hr1 (by decide)) (orS_le hr2 (by decide))
  rw [bs_orS, bs_orS] at hd2
  have HD2 := Lib.hid hd2
  clear hd2 he1 he2 hv1 hv2 hr1 hr2
  generalize cmpN (bs e1) (bs e2) = c at *
  generalize debT (bs v1) (bs v2) = d at *
  generalize debT (or0 (bs r1)) (or0 (bs r2)) = d2 at *
  go_enter Tryd.func32, Tryd.ntmps32
  go_wp2_with fail
  refine (HN.out _).mono ?_
  rintro e w1 ⟨rfl, hb⟩
  go_wp2_with fail
  have hs1 := cell_struct w (.string e1) (.string v1) (.string r1) 24
  have hs2 := cell_struct (w.alloc (.cells #[.string e1, .string v1, .string r1] 24)) (.string e2) (.string v2) (.string r2) 24
  rw [World.size_alloc] at hs2
  have ca1 : w1.cell? ⟨w.heap.size, 1, none⟩ = some (.string v1) := cell_tr hb (cell_tr (below1 _ _) hs1.1)
  have ca2 : w1.cell? ⟨w.heap.size, 2, none⟩ = some (.string r1) := cell_tr hb (cell_tr (below1 _ _) hs1.2)
  have cb1 : w1.cell? ⟨w.heap.size + 1, 1, none⟩ = some (.string v2) := cell_tr hb hs2.1
  have cb2 : w1.cell? ⟨w.heap.size + 1, 2, none⟩ = some (.string r2) := cell_tr hb hs2.2
  have HB : Hid (Below w.heap.size w w1) := (below2 w _ _).trans (below_to hb (by simp; omega))
  clear hs1 hs2 hb
  replace ca1 : w1.drew.cell? ⟨w.heap.size, 1, none⟩ = some (.string v1) := ca1
  replace ca2 : w1.drew.cell? ⟨w.heap.size, 2, none⟩ = some (.string r1) := ca2
  replace cb1 : w1.drew.cell? ⟨w.heap.size + 1, 1, none⟩ = some (.string v2) := cb1
  replace cb2 : w1.drew.cell? ⟨w.heap.size + 1, 2, none⟩ = some (.string r2) := cb2
  refine Mono.wp_region_mono (partsV w.heap.size c d d2 v1 r1 v2 r2) (fun W W' => Below W.heap.size W W') (by kernel_rfl) (by kernel_rfl) (fun W => Below.refl _ _) partsV_tr (fun a b c => below_tr) ?_ ?_
  · refine ⟨Mono.Step.plain rfl ?_, Mono.Step.plain rfl ?_, Mono.Step.plain rfl ?_, Mono.Step.plain rfl ?_, Mono.Step.plain rfl ?_, Mono.Step.plain rfl ?_, Mono.Step.plain rfl ?_, Mono.Step.plain rfl ?_, Mono.Step.plain rfl ?_, Mono.Step.plain rfl ?_, Mono.Step.plain rfl ?_, Mono.Step.plain rfl ?_, Mono.Step.plain rfl ?_, Mono.Step.plain rfl ?_, Mono.Step.plain rfl ?_, Mono.Step.plain rfl ?_, Mono.Step.plain rfl ?_, Mono.Step.plain rfl ?_, Mono.Step.plain rfl ?_, trivial⟩
    · intro vs W hR hk K hK
      simp [Mono.actOf, Mono.deps, Mono.dstOf, Region.binds, Act.put]
      go_simp
      exact hK _ _ (Below.refl _ _) rfl
    · intro vs W hR hk K hK
      simp [Mono.actOf, Mono.deps, Mono.dstOf, Region.binds, Act.put]
      go_simp
      exact hK _ _ (Below.refl _ _) rfl
    · intro vs W hR hk K hK
      have h1 : vs 1 = .pointer (some ⟨w.heap.size, 1, none⟩) := hk 1 (by decide)
      have qca1 := cell_tr hR ca1
      simp [Mono.actOf, Mono.deps, Mono.dstOf, Region.binds, Act.put, h1]
      go_simp
      exact hK _ _ (Below.refl _ _) rfl
    · intro vs W hR hk K hK
      simp [Mono.actOf, Mono.deps, Mono.dstOf, Region.binds, Act.put]
      go_simp
      exact hK _ _ (Below.refl _ _) rfl
    · intro vs W hR hk K hK
      have h3 : vs 3 = .pointer (some ⟨w.heap.size + 1, 1, none⟩) := hk 3 (by decide)
      have qcb1 := cell_tr hR cb1
      simp [Mono.actOf, Mono.deps, Mono.dstOf, Region.binds, Act.put, h3]
      go_simp
      exact hK _ _ (Below.refl _ _) rfl
    · intro vs W hR hk K hK
      have h2 : vs 2 = .string v1 := hk 2 (by decide)
      have h4 : vs 4 = .string v2 := hk 4 (by decide)
      simp [Mono.actOf, Mono.deps, Mono.dstOf, Region.binds, Act.put, h2, h4]
      go_simp
      refine (HD.out _).mono ?_
      rintro e w' ⟨rfl, hb'⟩
      exact ⟨_, rfl, hK _ _ hb' rfl⟩
    · intro vs W hR hk K hK
      have h0 : vs 0 = .int .i64 c := hk 0 (by decide)
      have h5 : vs 5 = .int .i64 d := hk 5 (by decide)
      simp [Mono.actOf, Mono.deps, Mono.dstOf, Region.binds, Act.put, h0, h5]
      go_simp
      exact hK _ _ (below1 _ _) (TwoAt.new _ _ _ _)
    · intro vs W hR hk K hK
      obtain ⟨b6, e6, f6, g6⟩ : TwoAt (.int .i64 c) (.int .i64 d) (vs 6) W := hk 6 (by decide)
      simp [Mono.actOf, Mono.deps, Mono.dstOf, Region.binds, Act.put, e6]
      go_simp
      refine (or_c c d b6 W f6 g6).mono ?_
      rintro e w' ⟨rfl, rfl⟩
      exact ⟨_, rfl, hK _ _ (Below.refl _ _) rfl⟩
    · intro vs W hR hk K hK
      simp [Mono.actOf, Mono.deps, Mono.dstOf, Region.binds, Act.put]
      go_simp
      exact hK _ _ (Below.refl _ _) rfl
    · intro vs W hR hk K hK
      have h8 : vs 8 = .pointer (some ⟨w.heap.size, 2, none⟩) := hk 8 (by decide)
      have qca2 := cell_tr hR ca2
      simp [Mono.actOf, Mono.deps, Mono.dstOf, Region.binds, Act.put, h8]
      go_simp
      exact hK _ _ (Below.refl _ _) rfl
    · intro vs W hR hk K hK
      have h9 : vs 9 = .string r1 := hk 9 (by decide)
      simp [Mono.actOf, Mono.deps, Mono.dstOf, Region.binds, Act.put, h9]
      go_simp
      exact hK _ _ (below1 _ _) (TwoAt.new _ _ _ _)
    · intro vs W hR hk K hK
      obtain ⟨b10, e10, f10, g10⟩ : TwoAt (.string r1) (.string ⟨#[48]⟩) (vs 10) W := hk 10 (by decide)
      simp [Mono.actOf, Mono.deps, Mono.dstOf, Region.binds, Act.put, e10]
      go_simp
      refine (ors_c r1 ⟨#[48]⟩ b10 W f10 g10).mono ?_
      rintro e w' ⟨rfl, rfl⟩
      exact ⟨_, rfl, hK _ _ (Below.refl _ _) rfl⟩
    · intro vs W hR hk K hK
      simp [Mono.actOf, Mono.deps, Mono.dstOf, Region.binds, Act.put]
      go_simp
      exact hK _ _ (Below.refl _ _) rfl
    · intro vs W hR hk K hK
      have h12 : vs 12 = .pointer (some ⟨w.heap.size + 1, 2, none⟩) := hk 12 (by decide)
      have qcb2 := cell_tr hR cb2
      simp [Mono.actOf, Mono.deps, Mono.dstOf, Region.binds, Act.put, h12]
      go_simp
      exact hK _ _ (Below.refl _ _) rfl
    · intro vs W hR hk K hK
      have h13 : vs 13 = .string r2 := hk 13 (by decide)
      simp [Mono.actOf, Mono.deps, Mono.dstOf, Region.binds, Act.put, h13]
      go_simp
      exact hK _ _ (below1 _ _) (TwoAt.new _ _ _ _)
    · intro vs W hR hk K hK
      obtain ⟨b14, e14, f14, g14⟩ : TwoAt (.string r2) (.string ⟨#[48]⟩) (vs 14) W := hk 14 (by decide)
      simp [Mono.actOf, Mono.deps, Mono.dstOf, Region.binds, Act.put, e14]
      go_simp
      refine (ors_c r2 ⟨#[48]⟩ b14 W f14 g14).mono ?_
      rintro e w' ⟨rfl, rfl⟩
      exact ⟨_, rfl, hK _ _ (Below.refl _ _) rfl⟩
    · intro vs W hR hk K hK
      have h11 : vs 11 = .string (orS r1 ⟨#[48]⟩) := hk 11 (by decide)
      have h15 : vs 15 = .string (orS r2 ⟨#[48]⟩) := hk 15 (by decide)
      simp [Mono.actOf, Mono.deps, Mono.dstOf, Region.binds, Act.put, h11, h15]
      go_simp
      refine (HD2.out _).mono ?_
      rintro e w' ⟨rfl, hb'⟩
      exact ⟨_, rfl, hK _ _ hb' rfl⟩
    · intro vs W hR hk K hK
      have h7 : vs 7 = .int .i64 (or2 c d) := hk 7 (by decide)
      simp [Mono.actOf, Mono.deps, Mono.dstOf, Region.binds, Act.put, h7]
      go_simp
      exact hK _ _ (Below.refl _ _) rfl
    · intro vs W hR hk K hK
      have h16 : vs 16 = .int .i64 d2 := hk 16 (by decide)
      simp [Mono.actOf, Mono.deps, Mono.dstOf, Region.binds, Act.put, h16]
      go_simp
      exact hK _ _ (Below.refl _ _) rfl
  · intro vs W hR hv
    have h17 : vs 17 = .int .i64 (or2 c d) := hv 17 (by decide)
    have h18 : vs 18 = .int .i64 d2 := hv 18 (by decide)
    simp [Mono.fill, Mono.dstOf, Act.put, List.range, List.range.loop, h17, h18]
    go_wp2
    go_ret2
    exact ⟨rfl, HB.out.drew.trans (below_to hR HB.out.size)⟩

/-- How releases stand, to rpm. -/
def relS (r1 r2 : ByteArray) : Int := if r1.size = 0 ∨ r2.size = 0 then (if r1.size = 0 then (if r2.size = 0 then 0 else -1) else 1) else rpmT (bs r1) (bs r2)
theorem relS_l {r : ByteArray} (h : ¬ r.size = 0) : relS ⟨#[]⟩ r = -1 := by
  unfold relS
  rw [if_pos (show (⟨#[]⟩ : ByteArray).size = 0 ∨ r.size = 0 from .inl rfl), if_pos (show (⟨#[]⟩ : ByteArray).size = 0 from rfl), if_neg h]
theorem relS_r {r : ByteArray} (h : ¬ r.size = 0) : relS r ⟨#[]⟩ = 1 := by
  unfold relS
  rw [if_pos (show r.size = 0 ∨ (⟨#[]⟩ : ByteArray).size = 0 from .inr rfl), if_neg h]
theorem relS_n {r s : ByteArray} (h : ¬ r.size = 0) (h' : ¬ s.size = 0) : relS r s = rpmT (bs r) (bs s) := by
  unfold relS
  rw [if_neg (by rintro (e | e); exact h e; exact h' e)]
/-- rpm's. -/
theorem parts_rpm (k : Int) (hk : k ≠ 2) (e1 v1 r1 e2 v2 r2 : ByteArray) (he1 : e1.size ≤ maxLen) (he2 : e2.size ≤ maxLen) (hv1 : v1.size ≤ maxLen) (hv2 : v2.size ≤ maxLen) (hr1 : r1.size ≤ maxLen) (hr2 : r2.size ≤ maxLen) (w : World) :
    Calls Tryd.prog 32 #[.int .i64 k, .agg #[.string e1, .string v1, .string r1], .agg #[.string e2, .string v2, .string r2]] w fun e w' =>
      e = .returned (.tuple #[.int .i64 (or2 (cmpN (bs e1) (bs e2)) (rpmT (bs v1) (bs v2))), .int .i64 (relS r1 r2)]) ∧ Below w.heap.size w w' := by
  have HN := Lib.hid (numbers_c e1 e2 he1 he2)
  have HD := Lib.hid (rpm_c v1 v2 hv1 hv2)
  have HD2 := Lib.hid (rpm_c r1 r2 hr1 hr2)
  have hB : (k == 2) = false := by simpa using hk
  clear he1 he2 hv1 hv2 hr1 hr2 hk
  generalize cmpN (bs e1) (bs e2) = c at *
  generalize rpmT (bs v1) (bs v2) = d at *
  generalize hr : rpmT (bs r1) (bs r2) = d2 at *
  have HR := Lib.hid hr
  clear hr
  by_cases h1 : r1.size = 0
  · obtain rfl := bs_zero h1
    by_cases h2 : r2.size = 0
    · obtain rfl := bs_zero h2
      clear h1 h2
      go_enter Tryd.func32, Tryd.ntmps32
      go_wp2_with fail
      refine (HN.out _).mono ?_
      rintro e w1 ⟨rfl, hb⟩
      have hs1 := cell_struct w (.string e1) (.string v1) (.string ⟨#[]⟩) 24
      have hs2 := cell_struct (w.alloc (.cells #[.string e1, .string v1, .string ⟨#[]⟩] 24)) (.string e2) (.string v2) (.string ⟨#[]⟩) 24
      rw [World.size_alloc] at hs2
      have ca1 : w1.cell? ⟨w.heap.size, 1, none⟩ = some (.string v1) := cell_tr hb (cell_tr (below1 _ _) hs1.1)
      have ca2 : w1.cell? ⟨w.heap.size, 2, none⟩ = some (.string ⟨#[]⟩) := cell_tr hb (cell_tr (below1 _ _) hs1.2)
      have cb1 : w1.cell? ⟨w.heap.size + 1, 1, none⟩ = some (.string v2) := cell_tr hb hs2.1
      have cb2 : w1.cell? ⟨w.heap.size + 1, 2, none⟩ = some (.string ⟨#[]⟩) := cell_tr hb hs2.2
      have HB : Hid (Below w.heap.size w w1) := (below2 w _ _).trans (below_to hb (by simp; omega))
      clear hs1 hs2 hb
      go_wp2_with fail
      refine (HD.out _).mono ?_
      rintro e w2 ⟨rfl, hb⟩
      go_wp2_with fail
      refine (or_c c d w2.heap.size _ (cell_two0 _ _ _ _) (cell_two1 _ _ _ _)).mono ?_
      rintro e w' ⟨rfl, rfl⟩
      have ca2' : (w2.alloc (.cells #[.int .i64 c, .int .i64 d] 3)).cell? ⟨w.heap.size, 2, none⟩ = some (.string ⟨#[]⟩) := cell_tr (below1 _ _) (cell_tr hb ca2)
      have cb2' : (w2.alloc (.cells #[.int .i64 c, .int .i64 d] 3)).cell? ⟨w.heap.size + 1, 2, none⟩ = some (.string ⟨#[]⟩) := cell_tr (below1 _ _) (cell_tr hb cb2)
      have HB2 : Hid (Below w.heap.size w (w2.alloc (.cells #[.int .i64 c, .int .i64 d] 3))) := HB.out.trans (below_to (below_tr hb (below1 _ _)) HB.out.size)
      clear ca1 ca2 cb1 cb2 hb HB
      obtain ⟨w3, ew3⟩ : ∃ w3, w2.alloc (.cells #[.int .i64 c, .int .i64 d] 3) = w3 := ⟨_, rfl⟩
      rw [ew3] at ca2' cb2' HB2
      rw [ew3]
      clear ew3
      go_wp2_with fail
      refine (order_c false false 1 (.inl rfl) _).mono ?_
      rintro e w' ⟨rfl, rfl⟩
      go_wp2
      go_ret2
      exact ⟨by rfl, HB2.out⟩
    · have he2 := bs_nonempty (s := r2) (by omega)
      have H2 := Lib.hid h2
      clear h1 h2
      go_enter Tryd.func32, Tryd.ntmps32
      go_wp2_with fail
      refine (HN.out _).mono ?_
      rintro e w1 ⟨rfl, hb⟩
      have hs1 := cell_struct w (.string e1) (.string v1) (.string ⟨#[]⟩) 24
      have hs2 := cell_struct (w.alloc (.cells #[.string e1, .string v1, .string ⟨#[]⟩] 24)) (.string e2) (.string v2) (.string r2) 24
      rw [World.size_alloc] at hs2
      have ca1 : w1.cell? ⟨w.heap.size, 1, none⟩ = some (.string v1) := cell_tr hb (cell_tr (below1 _ _) hs1.1)
      have ca2 : w1.cell? ⟨w.heap.size, 2, none⟩ = some (.string ⟨#[]⟩) := cell_tr hb (cell_tr (below1 _ _) hs1.2)
      have cb1 : w1.cell? ⟨w.heap.size + 1, 1, none⟩ = some (.string v2) := cell_tr hb hs2.1
      have cb2 : w1.cell? ⟨w.heap.size + 1, 2, none⟩ = some (.string r2) := cell_tr hb hs2.2
      have HB : Hid (Below w.heap.size w w1) := (below2 w _ _).trans (below_to hb (by simp; omega))
      clear hs1 hs2 hb
      go_wp2_with fail
      refine (HD.out _).mono ?_
      rintro e w2 ⟨rfl, hb⟩
      go_wp2_with fail
      refine (or_c c d w2.heap.size _ (cell_two0 _ _ _ _) (cell_two1 _ _ _ _)).mono ?_
      rintro e w' ⟨rfl, rfl⟩
      have ca2' : (w2.alloc (.cells #[.int .i64 c, .int .i64 d] 3)).cell? ⟨w.heap.size, 2, none⟩ = some (.string ⟨#[]⟩) := cell_tr (below1 _ _) (cell_tr hb ca2)
      have cb2' : (w2.alloc (.cells #[.int .i64 c, .int .i64 d] 3)).cell? ⟨w.heap.size + 1, 2, none⟩ = some (.string r2) := cell_tr (below1 _ _) (cell_tr hb cb2)
      have HB2 : Hid (Below w.heap.size w (w2.alloc (.cells #[.int .i64 c, .int .i64 d] 3))) := HB.out.trans (below_to (below_tr hb (below1 _ _)) HB.out.size)
      clear ca1 ca2 cb1 cb2 hb HB
      obtain ⟨w3, ew3⟩ : ∃ w3, w2.alloc (.cells #[.int .i64 c, .int .i64 d] 3) = w3 := ⟨_, rfl⟩
      rw [ew3] at ca2' cb2' HB2
      rw [ew3]
      clear ew3
      go_wp2_with fail
      refine (order_c false true 1 (.inl rfl) _).mono ?_
      rintro e w' ⟨rfl, rfl⟩
      go_wp2
      go_ret2
      exact ⟨by rw [relS_l H2.out]; rfl, HB2.out⟩
  · have he1 := bs_nonempty (s := r1) (by omega)
    have H1 := Lib.hid h1
    by_cases h2 : r2.size = 0
    · obtain rfl := bs_zero h2
      clear h1 h2
      go_enter Tryd.func32, Tryd.ntmps32
      go_wp2_with fail
      refine (HN.out _).mono ?_
      rintro e w1 ⟨rfl, hb⟩
      have hs1 := cell_struct w (.string e1) (.string v1) (.string r1) 24
      have hs2 := cell_struct (w.alloc (.cells #[.string e1, .string v1, .string r1] 24)) (.string e2) (.string v2) (.string ⟨#[]⟩) 24
      rw [World.size_alloc] at hs2
      have ca1 : w1.cell? ⟨w.heap.size, 1, none⟩ = some (.string v1) := cell_tr hb (cell_tr (below1 _ _) hs1.1)
      have ca2 : w1.cell? ⟨w.heap.size, 2, none⟩ = some (.string r1) := cell_tr hb (cell_tr (below1 _ _) hs1.2)
      have cb1 : w1.cell? ⟨w.heap.size + 1, 1, none⟩ = some (.string v2) := cell_tr hb hs2.1
      have cb2 : w1.cell? ⟨w.heap.size + 1, 2, none⟩ = some (.string ⟨#[]⟩) := cell_tr hb hs2.2
      have HB : Hid (Below w.heap.size w w1) := (below2 w _ _).trans (below_to hb (by simp; omega))
      clear hs1 hs2 hb
      go_wp2_with fail
      refine (HD.out _).mono ?_
      rintro e w2 ⟨rfl, hb⟩
      go_wp2_with fail
      refine (or_c c d w2.heap.size _ (cell_two0 _ _ _ _) (cell_two1 _ _ _ _)).mono ?_
      rintro e w' ⟨rfl, rfl⟩
      have ca2' : (w2.alloc (.cells #[.int .i64 c, .int .i64 d] 3)).cell? ⟨w.heap.size, 2, none⟩ = some (.string r1) := cell_tr (below1 _ _) (cell_tr hb ca2)
      have cb2' : (w2.alloc (.cells #[.int .i64 c, .int .i64 d] 3)).cell? ⟨w.heap.size + 1, 2, none⟩ = some (.string ⟨#[]⟩) := cell_tr (below1 _ _) (cell_tr hb cb2)
      have HB2 : Hid (Below w.heap.size w (w2.alloc (.cells #[.int .i64 c, .int .i64 d] 3))) := HB.out.trans (below_to (below_tr hb (below1 _ _)) HB.out.size)
      clear ca1 ca2 cb1 cb2 hb HB
      obtain ⟨w3, ew3⟩ : ∃ w3, w2.alloc (.cells #[.int .i64 c, .int .i64 d] 3) = w3 := ⟨_, rfl⟩
      rw [ew3] at ca2' cb2' HB2
      rw [ew3]
      clear ew3
      go_wp2_with fail
      refine (order_c true false 1 (.inl rfl) _).mono ?_
      rintro e w' ⟨rfl, rfl⟩
      go_wp2
      go_ret2
      exact ⟨by rw [relS_r H1.out]; rfl, HB2.out⟩
    · have he2 := bs_nonempty (s := r2) (by omega)
      have H2 := Lib.hid h2
      clear h1 h2
      go_enter Tryd.func32, Tryd.ntmps32
      go_wp2_with fail
      refine (HN.out _).mono ?_
      rintro e w1 ⟨rfl, hb⟩
      have hs1 := cell_struct w (.string e1) (.string v1) (.string r1) 24
      have hs2 := cell_struct (w.alloc (.cells #[.string e1, .string v1, .string r1] 24)) (.string e2) (.string v2) (.string r2) 24
      rw [World.size_alloc] at hs2
      have ca1 : w1.cell? ⟨w.heap.size, 1, none⟩ = some (.string v1) := cell_tr hb (cell_tr (below1 _ _) hs1.1)
      have ca2 : w1.cell? ⟨w.heap.size, 2, none⟩ = some (.string r1) := cell_tr hb (cell_tr (below1 _ _) hs1.2)
      have cb1 : w1.cell? ⟨w.heap.size + 1, 1, none⟩ = some (.string v2) := cell_tr hb hs2.1
      have cb2 : w1.cell? ⟨w.heap.size + 1, 2, none⟩ = some (.string r2) := cell_tr hb hs2.2
      have HB : Hid (Below w.heap.size w w1) := (below2 w _ _).trans (below_to hb (by simp; omega))
      clear hs1 hs2 hb
      go_wp2_with fail
      refine (HD.out _).mono ?_
      rintro e w2 ⟨rfl, hb⟩
      go_wp2_with fail
      refine (or_c c d w2.heap.size _ (cell_two0 _ _ _ _) (cell_two1 _ _ _ _)).mono ?_
      rintro e w' ⟨rfl, rfl⟩
      have ca2' : (w2.alloc (.cells #[.int .i64 c, .int .i64 d] 3)).cell? ⟨w.heap.size, 2, none⟩ = some (.string r1) := cell_tr (below1 _ _) (cell_tr hb ca2)
      have cb2' : (w2.alloc (.cells #[.int .i64 c, .int .i64 d] 3)).cell? ⟨w.heap.size + 1, 2, none⟩ = some (.string r2) := cell_tr (below1 _ _) (cell_tr hb cb2)
      have HB2 : Hid (Below w.heap.size w (w2.alloc (.cells #[.int .i64 c, .int .i64 d] 3))) := HB.out.trans (below_to (below_tr hb (below1 _ _)) HB.out.size)
      clear ca1 ca2 cb1 cb2 hb HB
      obtain ⟨w3, ew3⟩ : ∃ w3, w2.alloc (.cells #[.int .i64 c, .int .i64 d] 3) = w3 := ⟨_, rfl⟩
      rw [ew3] at ca2' cb2' HB2
      rw [ew3]
      clear ew3
      go_wp2_with fail
      refine (HD2.out _).mono ?_
      rintro e w4 ⟨rfl, hb⟩
      go_wp2
      go_ret2
      exact ⟨by rw [relS_n H1.out H2.out, HR.out]; rfl, HB2.out.trans (below_to hb HB2.out.size)⟩

theorem relS_eq (r1 r2 : ByteArray) : relS r1 r2 = if bs r1 = [] ∨ bs r2 = [] then (if bs r1 = [] then (if bs r2 = [] then 0 else -1) else 1) else rpmT (bs r1) (bs r2) := by
  unfold relS
  simp only [bs_nil]

/-- How two versions' parts compare. -/
theorem parts_c (k : Int) (e1 v1 r1 e2 v2 r2 : ByteArray) (he1 : e1.size ≤ maxLen) (he2 : e2.size ≤ maxLen) (hv1 : v1.size ≤ maxLen) (hv2 : v2.size ≤ maxLen) (hr1 : r1.size ≤ maxLen) (hr2 : r2.size ≤ maxLen) (w : World) :
    Calls Tryd.prog 32 #[.int .i64 k, .agg #[.string e1, .string v1, .string r1], .agg #[.string e2, .string v2, .string r2]] w fun e w' =>
      e = .returned (.tuple #[.int .i64 (partsC k (bs e1, bs v1, bs r1) (bs e2, bs v2, bs r2)).1, .int .i64 (partsC k (bs e1, bs v1, bs r1) (bs e2, bs v2, bs r2)).2]) ∧ Below w.heap.size w w' := by
  by_cases hk : k = 2
  · subst hk
    exact parts_deb e1 v1 r1 e2 v2 r2 he1 he2 hv1 hv2 hr1 hr2 w
  · have := parts_rpm k hk e1 v1 r1 e2 v2 r2 he1 he2 hv1 hv2 hr1 hr2 w
    rw [relS_eq] at this
    unfold partsC
    rw [if_neg hk]
    exact this
end Go.Proofs.YtgggbjkgpjcklaaDoor
