/-
  rpm's texts: the contract. Helper text (printed by gen_rpm.py); the conditions are those typed.
-/
import Derived.Test.YtgggbjkgpjcklaaDoorWalkF
import Derived.Test.YtgggbjkgpjcklaaDoorRpmLaw
import Derived.Test.YtgggbjkgpjcklaaDoorOrd2
import Derived.Laws.EntriesVeiled
namespace Go.Proofs.YtgggbjkgpjcklaaDoor
set_option linter.unusedVariables false
set_option linter.unusedSimpArgs false
open Go.RowKit

/-- The three captured variables. -/
def Boxes (H : Nat) (wr : World) (a b : ByteArray) : Prop :=
  wr.heap[H]? = some (.cells #[.string a] 9 (0, 0)) ∧ wr.heap[H + 1]? = some (.cells #[.string b] 9 (0, 0)) ∧ wr.heap[H + 2]? = some (.cells #[.func (.func 61) #[] #[]] 39 (0, 0))
theorem Boxes.ca {H : Nat} {wr : World} {a b : ByteArray} (h : Boxes H wr a b) : wr.cell? ⟨H, 0, none⟩ = some (.string a) := by unfold World.cell?; simp only [h.1]; rfl
theorem Boxes.cb {H : Nat} {wr : World} {a b : ByteArray} (h : Boxes H wr a b) : wr.cell? ⟨H + 1, 0, none⟩ = some (.string b) := by unfold World.cell?; simp only [h.2.1]; rfl
theorem Boxes.cm {H : Nat} {wr : World} {a b : ByteArray} (h : Boxes H wr a b) : wr.cell? ⟨H + 2, 0, none⟩ = some (.func (.func 61) #[] #[]) := by unfold World.cell?; simp only [h.2.2]; rfl
theorem Boxes.fa {H : Nat} {wr : World} {a b : ByteArray} (h : Boxes H wr a b) : wr.frozen? ⟨H, 0, none⟩ = false := by unfold World.frozen?; simp only [h.1]; rfl
theorem Boxes.fb {H : Nat} {wr : World} {a b : ByteArray} (h : Boxes H wr a b) : wr.frozen? ⟨H + 1, 0, none⟩ = false := by unfold World.frozen?; simp only [h.2.1]; rfl
theorem Boxes.lt {H : Nat} {wr : World} {a b : ByteArray} (h : Boxes H wr a b) : H + 2 < wr.heap.size := by
  rcases Nat.lt_or_ge (H + 2) wr.heap.size with h1 | h1
  · exact h1
  · have := h.2.2
    rw [Array.getElem?_eq_none h1] at this
    cases this
theorem Boxes.below {H : Nat} {w w' : World} {a b : ByteArray} (h : Boxes H w a b) (hb : Below w.heap.size w w') : Boxes H w' a b := by
  have hl := h.lt
  exact ⟨(hb.block _ (by omega)).trans h.1, (hb.block _ (by omega)).trans h.2.1, (hb.block _ (by omega)).trans h.2.2⟩
theorem Boxes.dr {H : Nat} {w : World} {a b : ByteArray} (h : Boxes H w a b) (n : Nat) : Boxes H (w.drewN n) a b := h
theorem Boxes.seta {H : Nat} {w : World} {a b : ByteArray} (h : Boxes H w a b) (x : ByteArray) : Boxes H (w.setCell ⟨H, 0, none⟩ (.string x)) x b := by
  obtain ⟨h1, h2, h3⟩ := h
  unfold Boxes World.setCell
  simp [Array.getElem?_modify, h1, h2, h3]
theorem Boxes.setb {H : Nat} {w : World} {a b : ByteArray} (h : Boxes H w a b) (x : ByteArray) : Boxes H (w.setCell ⟨H + 1, 0, none⟩ (.string x)) a x := by
  obtain ⟨h1, h2, h3⟩ := h
  unfold Boxes World.setCell
  simp [Array.getElem?_modify, h1, h2, h3]
theorem Boxes.set {H : Nat} {w : World} {a b : ByteArray} (h : Boxes H w a b) (x y : ByteArray) : Boxes H ((w.setCell ⟨H, 0, none⟩ (.string x)).setCell ⟨H + 1, 0, none⟩ (.string y)) x y := (h.seta x).setb y

theorem below_sets {H : Nat} {w w' : World} (h : Below H w w') (x y : ByteArray) : Below H w ((w'.setCell ⟨H, 0, none⟩ (.string x)).setCell ⟨H + 1, 0, none⟩ (.string y)) :=
  (h.setCell (p := ⟨H, 0, none⟩) (Nat.le_refl _) _).setCell (p := ⟨H + 1, 0, none⟩) (Nat.le_succ _) _

theorem box_below {H : Nat} {W w' : World} {a b : ByteArray} (h : Boxes H W a b) (hb : Below W.drew.heap.size W.drew w') : Boxes H w' a b := Boxes.below (w := W.drew) h hb
theorem below_box {H : Nat} {w W w' : World} {a b : ByteArray} (hB : Below H w W) (h : Boxes H W a b) (hb : Below W.drew.heap.size W.drew w') : Below H w w' :=
  hB.drew.trans (below_to hb (by have := h.lt; have e : W.drew.heap.size = W.heap.size := rfl; omega))

theorem alloc_at (w : World) (o : Obj) : (w.alloc o).heap[w.heap.size]? = some o := by
  unfold World.alloc
  simp
theorem third (w : World) (o1 o2 o3 : Obj) : (((w.alloc o1).alloc o2).alloc o3).heap[w.heap.size + 1 + 1]? = some o3 := by
  have := alloc_at ((w.alloc o1).alloc o2) o3
  rwa [show ((w.alloc o1).alloc o2).heap.size = w.heap.size + 1 + 1 by simp] at this
theorem boxes_new (w : World) (a b : ByteArray) : Boxes w.heap.size (((w.alloc (.cells #[.string a] 9)).alloc (.cells #[.string b] 9)).alloc (.cells #[.func (.func 61) #[] #[]] 39)) a b := by
  refine ⟨?_, ?_, third w _ _ _⟩
  · rw [Below.heap_alloc _ _ _ (by simp; omega), Below.heap_alloc _ _ _ (by simp)]
    exact alloc_at w _
  · rw [Below.heap_alloc _ _ _ (by simp)]
    have := alloc_at (w.alloc (.cells #[.string a] 9)) (.cells #[.string b] 9)
    rwa [show (w.alloc (.cells #[.string a] 9)).heap.size = w.heap.size + 1 by simp] at this

/-- What holds at rpm's label. -/
def RpmJ (T : Int) (a0 b0 : ByteArray) (w : World) (H : Nat) (x : Act) (wr : World) : Prop :=
  ∃ (a b : ByteArray) (u : Nat → Value), x = { tmps := #[.string a0, .string b0, .pointer (some ⟨H, 0, none⟩), .pointer (some ⟨H + 1, 0, none⟩), .int .i64 0, .func (.func 59) #[] #[.pointer (some ⟨H, 0, none⟩), .pointer (some ⟨H + 1, 0, none⟩)], .pointer (some ⟨H + 2, 0, none⟩), .func (.func 62) #[] #[.pointer (some ⟨H + 2, 0, none⟩)], u 8, u 9, u 10, u 11, u 12, u 13, u 14, u 15, u 16, u 17, u 18, u 19, u 20, u 21, u 22, u 23, u 24, u 25, u 26, u 27, u 28, u 29, u 30, u 31, u 32, u 33, u 34, u 35, u 36, u 37, u 38, u 39, u 40, u 41, u 42, u 43, u 44, u 45, u 46, u 47, u 48, u 49, u 50, u 51, u 52, u 53, u 54, u 55, u 56, u 57, u 58, u 59, u 60, u 61, u 62, u 63, u 64, u 65, u 66, u 67, u 68, u 69, u 70, u 71, u 72, u 73, u 74, u 75, u 76, u 77, u 78, u 79, u 80, u 81, u 82, u 83, u 84, u 85, u 86, u 87, u 88, u 89, u 90, u 91, u 92, u 93, u 94, u 95, u 96, u 97, u 98, u 99, u 100, u 101, u 102, u 103, u 104, u 105, u 106, u 107, u 108, u 109, u 110, u 111, u 112, u 113, u 114, u 115, u 116, u 117, u 118, u 119, u 120, u 121, u 122, u 123, u 124, u 125, u 126, u 127, u 128, u 129, u 130, u 131, u 132, u 133, u 134, u 135, u 136, u 137, u 138], defers := [] } ∧ a.size ≤ 9223372036854775807 ∧ b.size ≤ 9223372036854775807 ∧ Below H w wr ∧ Boxes H wr a b ∧ rpmT (bs a) (bs b) = T
theorem RpmJ.mk {T : Int} {a0 b0 : ByteArray} {w wr : World} {H : Nat} {u8 u9 u10 u11 u12 u13 u14 u15 u16 u17 u18 u19 u20 u21 u22 u23 u24 u25 u26 u27 u28 u29 u30 u31 u32 u33 u34 u35 u36 u37 u38 u39 u40 u41 u42 u43 u44 u45 u46 u47 u48 u49 u50 u51 u52 u53 u54 u55 u56 u57 u58 u59 u60 u61 u62 u63 u64 u65 u66 u67 u68 u69 u70 u71 u72 u73 u74 u75 u76 u77 u78 u79 u80 u81 u82 u83 u84 u85 u86 u87 u88 u89 u90 u91 u92 u93 u94 u95 u96 u97 u98 u99 u100 u101 u102 u103 u104 u105 u106 u107 u108 u109 u110 u111 u112 u113 u114 u115 u116 u117 u118 u119 u120 u121 u122 u123 u124 u125 u126 u127 u128 u129 u130 u131 u132 u133 u134 u135 u136 u137 u138 : Value} (a b : ByteArray) (ha : a.size ≤ 9223372036854775807) (hb : b.size ≤ 9223372036854775807) (hw : Below H w wr) (hx : Boxes H wr a b) (hT : rpmT (bs a) (bs b) = T) :
    RpmJ T a0 b0 w H { tmps := #[.string a0, .string b0, .pointer (some ⟨H, 0, none⟩), .pointer (some ⟨H + 1, 0, none⟩), .int .i64 0, .func (.func 59) #[] #[.pointer (some ⟨H, 0, none⟩), .pointer (some ⟨H + 1, 0, none⟩)], .pointer (some ⟨H + 2, 0, none⟩), .func (.func 62) #[] #[.pointer (some ⟨H + 2, 0, none⟩)], u8, u9, u10, u11, u12, u13, u14, u15, u16, u17, u18, u19, u20, u21, u22, u23, u24, u25, u26, u27, u28, u29, u30, u31, u32, u33, u34, u35, u36, u37, u38, u39, u40, u41, u42, u43, u44, u45, u46, u47, u48, u49, u50, u51, u52, u53, u54, u55, u56, u57, u58, u59, u60, u61, u62, u63, u64, u65, u66, u67, u68, u69, u70, u71, u72, u73, u74, u75, u76, u77, u78, u79, u80, u81, u82, u83, u84, u85, u86, u87, u88, u89, u90, u91, u92, u93, u94, u95, u96, u97, u98, u99, u100, u101, u102, u103, u104, u105, u106, u107, u108, u109, u110, u111, u112, u113, u114, u115, u116, u117, u118, u119, u120, u121, u122, u123, u124, u125, u126, u127, u128, u129, u130, u131, u132, u133, u134, u135, u136, u137, u138], defers := [] } wr := ⟨a, b, fun i => #[u8, u9, u10, u11, u12, u13, u14, u15, u16, u17, u18, u19, u20, u21, u22, u23, u24, u25, u26, u27, u28, u29, u30, u31, u32, u33, u34, u35, u36, u37, u38, u39, u40, u41, u42, u43, u44, u45, u46, u47, u48, u49, u50, u51, u52, u53, u54, u55, u56, u57, u58, u59, u60, u61, u62, u63, u64, u65, u66, u67, u68, u69, u70, u71, u72, u73, u74, u75, u76, u77, u78, u79, u80, u81, u82, u83, u84, u85, u86, u87, u88, u89, u90, u91, u92, u93, u94, u95, u96, u97, u98, u99, u100, u101, u102, u103, u104, u105, u106, u107, u108, u109, u110, u111, u112, u113, u114, u115, u116, u117, u118, u119, u120, u121, u122, u123, u124, u125, u126, u127, u128, u129, u130, u131, u132, u133, u134, u135, u136, u137, u138].getD (i - 8) undef, rfl, ha, hb, hw, hx, hT⟩
/-- The measure: what the two variables hold. -/
def boxLen (H : Nat) (wr : World) : Nat := (match wr.cell? ⟨H, 0, none⟩ with | some (.string s) => s.size | _ => 0) + (match wr.cell? ⟨H + 1, 0, none⟩ with | some (.string s) => s.size | _ => 0)
theorem Boxes.len {H : Nat} {wr : World} {a b : ByteArray} (h : Boxes H wr a b) : boxLen H wr = a.size + b.size := by unfold boxLen; rw [h.ca, h.cb]

set_option maxHeartbeats 4000000 in
set_option maxRecDepth 100000 in
theorem rpm_c (a0 b0 : ByteArray) (ha : a0.size ≤ maxLen) (hb : b0.size ≤ maxLen) (w : World) :
    Calls Tryd.prog 46 #[.string a0, .string b0] w fun e w' => e = .returned (.int .i64 (rpmT (bs a0) (bs b0))) ∧ Below w.heap.size w w' := by
  generalize hT : rpmT (bs a0) (bs b0) = T
  have HT := Lib.hid hT
  clear hT
  go_enter Tryd.func46, Tryd.ntmps46
  go_wp2
  refine wp_scope_share 0 (RpmJ T a0 b0 w w.heap.size) (fun _ wr => boxLen w.heap.size wr) rfl ?_ ?_
  · generalize hH : w.heap.size = H
    have HH := Lib.hid hH
    clear hH
    rintro x wr ⟨a, b, u, rfl, ha, hb, hbel, hbox, hT⟩
    have HB := Lib.hid hbel
    have HT := Lib.hid hT
    have HX := Lib.hid hbox
    clear hbel hT hbox
    have c1 := HX.out.ca
    have c2 := HX.out.cb
    have c3 := HX.out.cm
    have f1 := HX.out.fa
    have f2 := HX.out.fb
    have HCA := Lib.hid fun (W : World) hm => count_odd a ha (H + 2) W hm
    have HCB := Lib.hid fun (W : World) hm => count_odd b hb (H + 2) W hm
    have la := cnt_le odd (bs a)
    have lb := cnt_le odd (bs b)
    rw [bs_length] at la lb
    have sa := size_tail a (cnt odd (bs a))
    have sb := size_tail b (cnt odd (bs b))
    rw [rpmT_eq, skip_drop, skip_drop] at HT
    generalize cnt odd (bs a) = n at *
    generalize cnt odd (bs b) = m at *
    have i1 : (0 : Int) ≤ (n : Int) := by omega
    have i2 : (n : Int) ≤ (a.size : Int) := by omega
    have i3 : (0 : Int) ≤ (m : Int) := by omega
    have i4 : (m : Int) ≤ (b.size : Int) := by omega
    obtain ⟨a1, ea1⟩ : ∃ a1, a.extract n a.size = a1 := ⟨_, rfl⟩
    obtain ⟨b1, eb1⟩ : ∃ b1, b.extract m b.size = b1 := ⟨_, rfl⟩
    rw [ea1, eb1] at HT
    rw [ea1] at sa
    rw [eb1] at sb
    go_wp2_with fail
    refine Two.wp_region_ord2 (fun w' => w'.cell? ⟨H, 0, none⟩ = some (.string a)) (fun w' => w'.cell? ⟨H + 1, 0, none⟩ = some (.string b)) 10 11 [(.qa, 0), (.qa, 1), (.qa, 2), (.qb, 5), (.qb, 6), (.qb, 7), (.l0, 3), (.qa, 4), (.l0, 8), (.qb, 9), (.l1, 10), (.l2, 11)] (by kernel_rfl) (by kernel_rfl) (fun _ _ d _ _ h => by cases d <;> exact h) c1 c2 ?_
    intro wd hwd hS hS'
    clear hS hS'
    have ewd := hwd.out
    clear hwd
    subst ewd
    simp only [Two.ordOps2, List.map_cons, List.map_nil, Array.getD_eq_getD_getElem?, List.getElem?_toArray, List.getElem?_cons_succ, List.getElem?_cons_zero, Option.getD_some]
    refine Two.step_qa rfl (.string a) (fun w' hS' K hK => (by have q1 : w'.cell? _ = some _ := hS'; clear hS'; go_simp; exact hK)) (fun K hK => ?_)
    go_simp
    refine hK _ ?_
    clear hK K
    refine Two.step_qa rfl (.string a) (fun w' hS' K hK => (by have q1 : w'.cell? _ = some _ := hS'; clear hS'; go_simp; exact hK)) (fun K hK => ?_)
    go_simp
    refine hK _ ?_
    clear hK K
    refine Two.step_qa rfl (.func (.func 62) #[] #[.pointer (some ⟨H + 2, 0, none⟩)]) (fun w' hS' K hK => (by clear hS'; go_simp; exact hK)) (fun K hK => ?_)
    go_simp
    refine hK _ ?_
    clear hK K
    refine Two.step_qb rfl (.string b) (fun w' hS' K hK => (by have q1 : w'.cell? _ = some _ := hS'; clear hS'; go_simp; exact hK)) (fun K hK => ?_)
    go_simp
    refine hK _ ?_
    clear hK K
    refine Two.step_qb rfl (.string b) (fun w' hS' K hK => (by have q1 : w'.cell? _ = some _ := hS'; clear hS'; go_simp; exact hK)) (fun K hK => ?_)
    go_simp
    refine hK _ ?_
    clear hK K
    refine Two.step_qb rfl (.func (.func 62) #[] #[.pointer (some ⟨H + 2, 0, none⟩)]) (fun w' hS' K hK => (by clear hS'; go_simp; exact hK)) (fun K hK => ?_)
    go_simp
    refine hK _ ?_
    clear hK K
    refine Two.step_l0 rfl (fun K hK => ?_)
    go_simp
    refine (HCA.out wr.drew c3).mono ?_
    rintro e w' ⟨rfl, rfl⟩
    refine hK _ _ ⟨⟨c1, c2⟩, ?_⟩
    clear hK K
    refine Two.step_qa rfl (.string a1) (fun w' hS' K hK => (by clear hS'; go_simp; exact hK)) (fun K hK => ?_)
    go_simp
    refine hK _ ?_
    clear hK K
    refine Two.step_l0 rfl (fun K hK => ?_)
    go_simp
    refine (HCB.out wr.drew c3).mono ?_
    rintro e w' ⟨rfl, rfl⟩
    refine hK _ _ ⟨⟨c1, c2⟩, ?_⟩
    clear hK K
    refine Two.step_qb rfl (.string b1) (fun w' hS' K hK => (by clear hS'; go_simp; exact hK)) (fun K hK => ?_)
    go_simp
    refine hK _ ?_
    clear hK K
    refine Two.step_l1 rfl (fun K hK => ?_)
    go_simp
    refine hK _ _ ⟨(HX.out.dr 1 |>.seta a1).cb, ?_⟩
    clear hK K
    refine Two.step_l2 rfl (fun K hK => ?_)
    go_simp
    refine hK _ _ ?_
    clear hK K
    refine Two.step_nil ?_

    go_wp2_with fail
    have HL := Lib.hid HX.out.len
    have A1 : a1.size ≤ 9223372036854775807 := by omega
    have B1' : b1.size ≤ 9223372036854775807 := by omega
    have SA1 := Lib.hid (show a1.size ≤ a.size ∧ b1.size ≤ b.size by omega)
    clear sa sb ea1 eb1 la lb i1 i2 i3 i4
    clear HCA HCB c1 c2 c3 f1 f2
    have X1 := (HX.out.set a1 b1).dr 1
    have B1 := (below_sets HB.out a1 b1).drew
    change Boxes _ (World.drew ((wr.setCell ⟨H, 0, none⟩ (.string a1)).setCell ⟨H + 1, 0, none⟩ (.string b1))) _ _ at X1
    change Below _ _ (World.drew ((wr.setCell ⟨H, 0, none⟩ (.string a1)).setCell ⟨H + 1, 0, none⟩ (.string b1))) at B1
    generalize World.drew ((wr.setCell ⟨H, 0, none⟩ (.string a1)).setCell ⟨H + 1, 0, none⟩ (.string b1)) = W1 at X1 B1 ⊢
    have HX1 := Lib.hid X1
    have HB1 := Lib.hid B1
    have c11 := X1.ca
    have c21 := X1.cb
    have f11 := X1.fa
    have f21 := X1.fb
    clear X1 B1
    go_wp2_with fail
    refine (begins126 a1 b1 H (H + 1) W1 c11 c21).mono ?_
    rintro e w' ⟨rfl, q, rfl⟩
    clear c11 c21 f11 f21
    have X2 := HX1.out.dr q
    have B2 := below_dr HB1.out q
    change Boxes _ (World.drewN W1 q) _ _ at X2
    change Below _ _ (World.drewN W1 q) at B2
    generalize World.drewN W1 q = W2 at X2 B2 ⊢
    have HX2 := Lib.hid X2
    have HB2 := Lib.hid B2
    have c12 := X2.ca
    have c22 := X2.cb
    have f12 := X2.fa
    have f22 := X2.fb
    clear X2 B2
    cases hx : hd 126 (bs a1) <;> cases hy : hd 126 (bs b1)
    · go_wp2_with fail
      refine (begins94 a1 b1 H (H + 1) W2 c12 c22).mono ?_
      rintro e w' ⟨rfl, q, rfl⟩
      clear c12 c22 f12 f22
      have X3 := HX2.out.dr q
      have B3 := below_dr HB2.out q
      change Boxes _ (World.drewN W2 q) _ _ at X3
      change Below _ _ (World.drewN W2 q) at B3
      generalize World.drewN W2 q = W3 at X3 B3 ⊢
      have HX3 := Lib.hid X3
      have HB3 := Lib.hid B3
      have c13 := X3.ca
      have c23 := X3.cb
      have f13 := X3.fa
      have f23 := X3.fb
      clear X3 B3
      cases hu : hd 94 (bs a1) <;> cases hv : hd 94 (bs b1)
      · by_cases h0 : a1.size = 0
        · obtain rfl := bs_zero h0
          clear h0
          go_wp2_with fail
          refine (cmp_c _ _ _).mono ?_
          rintro e w' ⟨rfl, rfl⟩
          go_wp2
          try simp only [Exit.jump]
          go_ret
          exact ⟨by rw [← HT.out, rpmS_end hx hy (.inl rfl), bs_length, bs_length, show ((⟨#[]⟩ : ByteArray).size : Int) = 0 from rfl, Int.zero_sub]; rfl, by rw [HH.out]; exact HB3.out⟩
        · have pa : 0 < a1.size := by omega
          have ea := bs_nonempty pa
          clear h0
          by_cases h0 : b1.size = 0
          · obtain rfl := bs_zero h0
            clear h0
            go_wp2_with fail
            refine (cmp_c _ _ _).mono ?_
            rintro e w' ⟨rfl, rfl⟩
            go_wp2
            try simp only [Exit.jump]
            go_ret
            exact ⟨by rw [← HT.out, rpmS_end hx hy (.inr rfl), bs_length, bs_length, show ((⟨#[]⟩ : ByteArray).size : Int) = 0 from rfl, Int.sub_zero]; rfl, by rw [HH.out]; exact HB3.out⟩
          · have pb : 0 < b1.size := by omega
            have eb := bs_nonempty pb
            clear h0
            obtain ⟨l, hl⟩ := bs_cons pa
            cases hD : dig a1[0] with
            | true =>
              have ee := rpmS_dig (x := a1[0]) (p := l) (q := bs b1) (by rw [← hl]; exact hx) hy (by rw [← hl]; exact hu) hv (by rw [Ne, bs_nil]; omega) hD
              rw [← hl] at ee
              rw [ee] at HT
              clear ee
              have HX0 := Lib.hid (rfl : a1[0] = a1[0])
              have HD := Lib.hid (digit_c a1[0])
              rw [hD] at HD
              clear hD hl
              generalize hx0 : a1[0] = x0 at HD HX0
              clear HX0
              have HX0 := Lib.hid hx0
              clear hx0
              have HCA := Lib.hid (count_dig a1 (by unfold maxLen; omega))
              have HCB := Lib.hid (count_dig b1 (by unfold maxLen; omega))
              have la := cnt_le dig (bs a1)
              have lb := cnt_le dig (bs b1)
              rw [bs_length] at la lb
              rw [← bs_head, ← bs_head, ← bs_drop, ← bs_drop] at HT
              generalize cnt dig (bs a1) = n2 at *
              generalize cnt dig (bs b1) = m2 at *
              by_cases hm : m2 = 0
              · subst hm
                rw [if_pos rfl] at HT
                go_wp2_with fail
                rw [HX0.out]
                refine (HD.out _).mono ?_
                rintro e w' ⟨rfl, rfl⟩
                have hxx := HX0.out
                go_wp2_with fail
                refine wp_region_ord (fun w' => w'.cell? ⟨H, 0, none⟩ = some (.string a1) ∧ w'.cell? ⟨H + 1, 0, none⟩ = some (.string b1)) 5 [(true, 0), (true, 2), (false, 1), (false, 3), (false, 4), (false, 5)] (by kernel_rfl) (by kernel_rfl) (fun _ _ d _ _ h => by cases d <;> exact h) ⟨c13, c23⟩ ?_
                intro wd hwd hS
                clear hS
                have ewd := hwd.out
                clear hwd
                subst ewd
                simp only [ordOps, List.map_cons, List.map_nil, Array.getD_eq_getD_getElem?, List.getElem?_toArray, List.getElem?_cons_succ, List.getElem?_cons_zero, Option.getD_some]
                refine wpOrd_q rfl (.string a1) (fun w' hS' K hK => (by have q1 := hS'.1; have q2 := hS'.2; clear hS'; go_simp; exact hK)) (fun K hK => ?_)
                go_simp
                refine hK _ ?_
                clear hK K
                refine wpOrd_q rfl (.string b1) (fun w' hS' K hK => (by have q1 := hS'.1; have q2 := hS'.2; clear hS'; go_simp; exact hK)) (fun K hK => ?_)
                go_simp
                refine hK _ ?_
                clear hK K
                refine wpOrd_l rfl (fun K hK => ?_)
                go_simp
                refine (HCA.out _).mono ?_
                rintro e w' ⟨rfl, rfl⟩
                refine hK _ _ ⟨fun _ => ⟨c13, c23⟩, ?_⟩
                clear hK K
                refine wpOrd_l rfl (fun K hK => ?_)
                go_simp
                refine (HCB.out _).mono ?_
                rintro e w' ⟨rfl, rfl⟩
                refine hK _ _ ⟨fun _ => ⟨c13, c23⟩, ?_⟩
                clear hK K
                refine wpOrd_l rfl (fun K hK => ?_)
                go_simp
                refine hK _ _ ⟨fun _ => ⟨c13, c23⟩, ?_⟩
                clear hK K
                refine wpOrd_l rfl (fun K hK => ?_)
                go_simp
                refine hK _ _ ⟨fun h => absurd rfl h, ?_⟩
                clear hK K
                refine wpOrd_nil ?_
                go_wp2_with fail
                have X4 := HX3.out.dr 1
                have B4 := HB3.out.drew
                change Boxes _ (World.drew W3) _ _ at X4
                change Below _ _ (World.drew W3) at B4
                generalize World.drew W3 = W4 at X4 B4 ⊢
                have HX4 := Lib.hid X4
                have HB4 := Lib.hid B4
                have c14 := X4.ca
                have c24 := X4.cb
                have f14 := X4.fa
                have f24 := X4.fb
                clear X4 B4
                go_wp2
                try simp only [Exit.jump]
                go_ret
                exact ⟨by rw [← HT.out]; rfl, by rw [HH.out]; exact HB4.out⟩
              · rw [if_neg hm] at HT
                have hBm : ((m2 : Int) == 0) = false := by simp; omega
                have i1 : (0 : Int) ≤ (n2 : Int) := by omega
                have i2 : (n2 : Int) ≤ (a1.size : Int) := by omega
                have i3 : (0 : Int) ≤ (m2 : Int) := by omega
                have i4 : (m2 : Int) ≤ (b1.size : Int) := by omega
                have za : (a1.extract 0 n2).size ≤ a1.size := size_le
                have zb : (b1.extract 0 m2).size ≤ b1.size := size_le
                have sa := size_tail a1 n2
                have sb := size_tail b1 m2
                obtain ⟨a2, ea2⟩ : ∃ a2, a1.extract 0 n2 = a2 := ⟨_, rfl⟩
                obtain ⟨b2, eb2⟩ : ∃ b2, b1.extract 0 m2 = b2 := ⟨_, rfl⟩
                obtain ⟨a3, ea3⟩ : ∃ a3, a1.extract n2 a1.size = a3 := ⟨_, rfl⟩
                obtain ⟨b3, eb3⟩ : ∃ b3, b1.extract m2 b1.size = b3 := ⟨_, rfl⟩
                rw [ea2, eb2, ea3, eb3] at HT
                rw [ea2] at za
                rw [eb2] at zb
                rw [ea3] at sa
                rw [eb3] at sb
                have HS := Lib.hid (show a3.size + b3.size < a.size + b.size ∧ a3.size ≤ a1.size ∧ b3.size ≤ b1.size by have := SA1.out; omega)
                have HN := Lib.hid (numbers_c a2 b2 (by unfold maxLen at *; omega) (by unfold maxLen at *; omega))
                clear sa sb za zb
                generalize cmpN (bs a2) (bs b2) = c at HT HN
                by_cases hc : c = 0
                · subst hc
                  rw [if_neg (by simp)] at HT
                  have hB0 : ((0 : Int) != 0) = false := by simp
                  clear hm
                  go_wp2_with fail
                  rw [HX0.out]
                  refine (HD.out _).mono ?_
                  rintro e w' ⟨rfl, rfl⟩
                  have hxx := HX0.out
                  go_wp2_with fail
                  refine wp_region_ord (fun w' => w'.cell? ⟨H, 0, none⟩ = some (.string a1) ∧ w'.cell? ⟨H + 1, 0, none⟩ = some (.string b1)) 5 [(true, 0), (true, 2), (false, 1), (false, 3), (false, 4), (false, 5)] (by kernel_rfl) (by kernel_rfl) (fun _ _ d _ _ h => by cases d <;> exact h) ⟨c13, c23⟩ ?_
                  intro wd hwd hS
                  clear hS
                  have ewd := hwd.out
                  clear hwd
                  subst ewd
                  simp only [ordOps, List.map_cons, List.map_nil, Array.getD_eq_getD_getElem?, List.getElem?_toArray, List.getElem?_cons_succ, List.getElem?_cons_zero, Option.getD_some]
                  refine wpOrd_q rfl (.string a1) (fun w' hS' K hK => (by have q1 := hS'.1; have q2 := hS'.2; clear hS'; go_simp; exact hK)) (fun K hK => ?_)
                  go_simp
                  refine hK _ ?_
                  clear hK K
                  refine wpOrd_q rfl (.string b1) (fun w' hS' K hK => (by have q1 := hS'.1; have q2 := hS'.2; clear hS'; go_simp; exact hK)) (fun K hK => ?_)
                  go_simp
                  refine hK _ ?_
                  clear hK K
                  refine wpOrd_l rfl (fun K hK => ?_)
                  go_simp
                  refine (HCA.out _).mono ?_
                  rintro e w' ⟨rfl, rfl⟩
                  refine hK _ _ ⟨fun _ => ⟨c13, c23⟩, ?_⟩
                  clear hK K
                  refine wpOrd_l rfl (fun K hK => ?_)
                  go_simp
                  refine (HCB.out _).mono ?_
                  rintro e w' ⟨rfl, rfl⟩
                  refine hK _ _ ⟨fun _ => ⟨c13, c23⟩, ?_⟩
                  clear hK K
                  refine wpOrd_l rfl (fun K hK => ?_)
                  go_simp
                  refine hK _ _ ⟨fun _ => ⟨c13, c23⟩, ?_⟩
                  clear hK K
                  refine wpOrd_l rfl (fun K hK => ?_)
                  go_simp
                  refine hK _ _ ⟨fun h => absurd rfl h, ?_⟩
                  clear hK K
                  refine wpOrd_nil ?_
                  go_wp2_with fail
                  have X4 := HX3.out.dr 1
                  have B4 := HB3.out.drew
                  change Boxes _ (World.drew W3) _ _ at X4
                  change Below _ _ (World.drew W3) at B4
                  generalize World.drew W3 = W4 at X4 B4 ⊢
                  have HX4 := Lib.hid X4
                  have HB4 := Lib.hid B4
                  have c14 := X4.ca
                  have c24 := X4.cb
                  have f14 := X4.fa
                  have f24 := X4.fb
                  clear X4 B4
                  go_wp2_with fail
                  go_still_tail 6, (by kernel_rfl)
                  change wpList _ _ _ _ _ W4.drew
                  go_wp2_with fail
                  refine (HN.out _).mono ?_
                  rintro e W5 ⟨rfl, hb5⟩
                  have X5 := box_below HX4.out hb5
                  have B5 := below_box HB4.out HX4.out hb5
                  clear hb5
                  have HX5 := Lib.hid X5
                  have HB5 := Lib.hid B5
                  have c15 := X5.ca
                  have c25 := X5.cb
                  have f15 := X5.fa
                  have f25 := X5.fb
                  clear X5 B5 c14 c24 f14 f24
                  go_wp2_with fail
                  refine Two.wp_region_ord2 (fun w' => w'.cell? ⟨H, 0, none⟩ = some (.string a1)) (fun w' => w'.cell? ⟨H + 1, 0, none⟩ = some (.string b1)) 6 7 [(.qa, 0), (.qa, 1), (.qa, 2), (.qb, 3), (.qb, 4), (.qb, 5), (.l1, 6), (.l2, 7)] (by kernel_rfl) (by kernel_rfl) (fun _ _ d _ _ h => by cases d <;> exact h) c15 c25 ?_
                  intro wd hwd hS hS'
                  clear hS hS'
                  have ewd := hwd.out
                  clear hwd
                  subst ewd
                  simp only [Two.ordOps2, List.map_cons, List.map_nil, Array.getD_eq_getD_getElem?, List.getElem?_toArray, List.getElem?_cons_succ, List.getElem?_cons_zero, Option.getD_some]
                  refine Two.step_qa rfl (.string a1) (fun w' hS' K hK => (by have q1 : w'.cell? _ = some _ := hS'; clear hS'; go_simp; exact hK)) (fun K hK => ?_)
                  go_simp
                  refine hK _ ?_
                  clear hK K
                  refine Two.step_qa rfl (.int .i64 n2) (fun w' hS' K hK => (by clear hS'; go_simp; exact hK)) (fun K hK => ?_)
                  go_simp
                  refine hK _ ?_
                  clear hK K
                  refine Two.step_qa rfl (.string a3) (fun w' hS' K hK => (by clear hS'; go_simp; exact hK)) (fun K hK => ?_)
                  go_simp
                  refine hK _ ?_
                  clear hK K
                  refine Two.step_qb rfl (.string b1) (fun w' hS' K hK => (by have q1 : w'.cell? _ = some _ := hS'; clear hS'; go_simp; exact hK)) (fun K hK => ?_)
                  go_simp
                  refine hK _ ?_
                  clear hK K
                  refine Two.step_qb rfl (.int .i64 m2) (fun w' hS' K hK => (by clear hS'; go_simp; exact hK)) (fun K hK => ?_)
                  go_simp
                  refine hK _ ?_
                  clear hK K
                  refine Two.step_qb rfl (.string b3) (fun w' hS' K hK => (by clear hS'; go_simp; exact hK)) (fun K hK => ?_)
                  go_simp
                  refine hK _ ?_
                  clear hK K
                  refine Two.step_l1 rfl (fun K hK => ?_)
                  go_simp
                  refine hK _ _ ⟨(HX5.out.dr 1 |>.seta a3).cb, ?_⟩
                  clear hK K
                  refine Two.step_l2 rfl (fun K hK => ?_)
                  go_simp
                  refine hK _ _ ?_
                  clear hK K
                  refine Two.step_nil ?_
                  try go_wp2
                  have X9 := (HX5.out.set a3 b3).dr 1
                  have B9 := (below_sets HB5.out a3 b3).drew
                  change Boxes _ (World.drew ((W5.setCell ⟨H, 0, none⟩ (.string a3)).setCell ⟨H + 1, 0, none⟩ (.string b3))) _ _ at X9
                  change Below _ _ (World.drew ((W5.setCell ⟨H, 0, none⟩ (.string a3)).setCell ⟨H + 1, 0, none⟩ (.string b3))) at B9
                  generalize World.drew ((W5.setCell ⟨H, 0, none⟩ (.string a3)).setCell ⟨H + 1, 0, none⟩ (.string b3)) = W9 at X9 B9 ⊢
                  have HX9 := Lib.hid X9
                  have HB9 := Lib.hid B9
                  have c19 := X9.ca
                  have c29 := X9.cb
                  have f19 := X9.fa
                  have f29 := X9.fb
                  clear X9 B9
                  go_step3
                  refine ⟨rfl, RpmJ.mk a3 b3 ?_ ?_ HB9.out HX9.out HT.out, ?_⟩
                  · have := HS.out; omega
                  · have := HS.out; omega
                  · rw [HX9.out.len, HL.out]
                    have := HS.out
                    omega
                · rw [if_pos hc] at HT
                  have hBc : (c != 0) = true := by simpa using hc
                  clear hc hm
                  go_wp2_with fail
                  rw [HX0.out]
                  refine (HD.out _).mono ?_
                  rintro e w' ⟨rfl, rfl⟩
                  have hxx := HX0.out
                  go_wp2_with fail
                  refine wp_region_ord (fun w' => w'.cell? ⟨H, 0, none⟩ = some (.string a1) ∧ w'.cell? ⟨H + 1, 0, none⟩ = some (.string b1)) 5 [(true, 0), (true, 2), (false, 1), (false, 3), (false, 4), (false, 5)] (by kernel_rfl) (by kernel_rfl) (fun _ _ d _ _ h => by cases d <;> exact h) ⟨c13, c23⟩ ?_
                  intro wd hwd hS
                  clear hS
                  have ewd := hwd.out
                  clear hwd
                  subst ewd
                  simp only [ordOps, List.map_cons, List.map_nil, Array.getD_eq_getD_getElem?, List.getElem?_toArray, List.getElem?_cons_succ, List.getElem?_cons_zero, Option.getD_some]
                  refine wpOrd_q rfl (.string a1) (fun w' hS' K hK => (by have q1 := hS'.1; have q2 := hS'.2; clear hS'; go_simp; exact hK)) (fun K hK => ?_)
                  go_simp
                  refine hK _ ?_
                  clear hK K
                  refine wpOrd_q rfl (.string b1) (fun w' hS' K hK => (by have q1 := hS'.1; have q2 := hS'.2; clear hS'; go_simp; exact hK)) (fun K hK => ?_)
                  go_simp
                  refine hK _ ?_
                  clear hK K
                  refine wpOrd_l rfl (fun K hK => ?_)
                  go_simp
                  refine (HCA.out _).mono ?_
                  rintro e w' ⟨rfl, rfl⟩
                  refine hK _ _ ⟨fun _ => ⟨c13, c23⟩, ?_⟩
                  clear hK K
                  refine wpOrd_l rfl (fun K hK => ?_)
                  go_simp
                  refine (HCB.out _).mono ?_
                  rintro e w' ⟨rfl, rfl⟩
                  refine hK _ _ ⟨fun _ => ⟨c13, c23⟩, ?_⟩
                  clear hK K
                  refine wpOrd_l rfl (fun K hK => ?_)
                  go_simp
                  refine hK _ _ ⟨fun _ => ⟨c13, c23⟩, ?_⟩
                  clear hK K
                  refine wpOrd_l rfl (fun K hK => ?_)
                  go_simp
                  refine hK _ _ ⟨fun h => absurd rfl h, ?_⟩
                  clear hK K
                  refine wpOrd_nil ?_
                  go_wp2_with fail
                  have X4 := HX3.out.dr 1
                  have B4 := HB3.out.drew
                  change Boxes _ (World.drew W3) _ _ at X4
                  change Below _ _ (World.drew W3) at B4
                  generalize World.drew W3 = W4 at X4 B4 ⊢
                  have HX4 := Lib.hid X4
                  have HB4 := Lib.hid B4
                  have c14 := X4.ca
                  have c24 := X4.cb
                  have f14 := X4.fa
                  have f24 := X4.fb
                  clear X4 B4
                  go_wp2_with fail
                  go_still_tail 6, (by kernel_rfl)
                  change wpList _ _ _ _ _ W4.drew
                  go_wp2_with fail
                  refine (HN.out _).mono ?_
                  rintro e W5 ⟨rfl, hb5⟩
                  have X5 := box_below HX4.out hb5
                  have B5 := below_box HB4.out HX4.out hb5
                  clear hb5
                  have HX5 := Lib.hid X5
                  have HB5 := Lib.hid B5
                  have c15 := X5.ca
                  have c25 := X5.cb
                  have f15 := X5.fa
                  have f25 := X5.fb
                  clear X5 B5 c14 c24 f14 f24
                  go_wp2
                  try simp only [Exit.jump]
                  go_ret
                  exact ⟨by rw [← HT.out]; rfl, by rw [HH.out]; exact HB5.out⟩
            | false =>
              have ee := rpmS_let (x := a1[0]) (p := l) (q := bs b1) (by rw [← hl]; exact hx) hy (by rw [← hl]; exact hu) hv (by rw [Ne, bs_nil]; omega) hD
              rw [← hl] at ee
              rw [ee] at HT
              clear ee
              have HX0 := Lib.hid (rfl : a1[0] = a1[0])
              have HD := Lib.hid (digit_c a1[0])
              rw [hD] at HD
              clear hD hl
              generalize hx0 : a1[0] = x0 at HD HX0
              clear HX0
              have HX0 := Lib.hid hx0
              clear hx0
              have HCA := Lib.hid (count_lett a1 (by unfold maxLen; omega))
              have HCB := Lib.hid (count_lett b1 (by unfold maxLen; omega))
              have la := cnt_le lett (bs a1)
              have lb := cnt_le lett (bs b1)
              rw [bs_length] at la lb
              rw [← bs_head, ← bs_head, ← bs_drop, ← bs_drop] at HT
              generalize cnt lett (bs a1) = n2 at *
              generalize cnt lett (bs b1) = m2 at *
              by_cases hm : m2 = 0
              · subst hm
                rw [if_pos rfl] at HT
                go_wp2_with fail
                rw [HX0.out]
                refine (HD.out _).mono ?_
                rintro e w' ⟨rfl, rfl⟩
                have hxx := HX0.out
                go_wp2_with fail
                refine wp_region_ord (fun w' => w'.cell? ⟨H, 0, none⟩ = some (.string a1) ∧ w'.cell? ⟨H + 1, 0, none⟩ = some (.string b1)) 5 [(true, 0), (true, 2), (false, 1), (false, 3), (false, 4), (false, 5)] (by kernel_rfl) (by kernel_rfl) (fun _ _ d _ _ h => by cases d <;> exact h) ⟨c13, c23⟩ ?_
                intro wd hwd hS
                clear hS
                have ewd := hwd.out
                clear hwd
                subst ewd
                simp only [ordOps, List.map_cons, List.map_nil, Array.getD_eq_getD_getElem?, List.getElem?_toArray, List.getElem?_cons_succ, List.getElem?_cons_zero, Option.getD_some]
                refine wpOrd_q rfl (.string a1) (fun w' hS' K hK => (by have q1 := hS'.1; have q2 := hS'.2; clear hS'; go_simp; exact hK)) (fun K hK => ?_)
                go_simp
                refine hK _ ?_
                clear hK K
                refine wpOrd_q rfl (.string b1) (fun w' hS' K hK => (by have q1 := hS'.1; have q2 := hS'.2; clear hS'; go_simp; exact hK)) (fun K hK => ?_)
                go_simp
                refine hK _ ?_
                clear hK K
                refine wpOrd_l rfl (fun K hK => ?_)
                go_simp
                refine (HCA.out _).mono ?_
                rintro e w' ⟨rfl, rfl⟩
                refine hK _ _ ⟨fun _ => ⟨c13, c23⟩, ?_⟩
                clear hK K
                refine wpOrd_l rfl (fun K hK => ?_)
                go_simp
                refine (HCB.out _).mono ?_
                rintro e w' ⟨rfl, rfl⟩
                refine hK _ _ ⟨fun _ => ⟨c13, c23⟩, ?_⟩
                clear hK K
                refine wpOrd_l rfl (fun K hK => ?_)
                go_simp
                refine hK _ _ ⟨fun _ => ⟨c13, c23⟩, ?_⟩
                clear hK K
                refine wpOrd_l rfl (fun K hK => ?_)
                go_simp
                refine hK _ _ ⟨fun h => absurd rfl h, ?_⟩
                clear hK K
                refine wpOrd_nil ?_
                go_wp2_with fail
                have X4 := HX3.out.dr 1
                have B4 := HB3.out.drew
                change Boxes _ (World.drew W3) _ _ at X4
                change Below _ _ (World.drew W3) at B4
                generalize World.drew W3 = W4 at X4 B4 ⊢
                have HX4 := Lib.hid X4
                have HB4 := Lib.hid B4
                have c14 := X4.ca
                have c24 := X4.cb
                have f14 := X4.fa
                have f24 := X4.fb
                clear X4 B4
                go_wp2
                try simp only [Exit.jump]
                go_ret
                exact ⟨by rw [← HT.out]; rfl, by rw [HH.out]; exact HB4.out⟩
              · rw [if_neg hm] at HT
                have hBm : ((m2 : Int) == 0) = false := by simp; omega
                have i1 : (0 : Int) ≤ (n2 : Int) := by omega
                have i2 : (n2 : Int) ≤ (a1.size : Int) := by omega
                have i3 : (0 : Int) ≤ (m2 : Int) := by omega
                have i4 : (m2 : Int) ≤ (b1.size : Int) := by omega
                have za : (a1.extract 0 n2).size ≤ a1.size := size_le
                have zb : (b1.extract 0 m2).size ≤ b1.size := size_le
                have sa := size_tail a1 n2
                have sb := size_tail b1 m2
                obtain ⟨a2, ea2⟩ : ∃ a2, a1.extract 0 n2 = a2 := ⟨_, rfl⟩
                obtain ⟨b2, eb2⟩ : ∃ b2, b1.extract 0 m2 = b2 := ⟨_, rfl⟩
                obtain ⟨a3, ea3⟩ : ∃ a3, a1.extract n2 a1.size = a3 := ⟨_, rfl⟩
                obtain ⟨b3, eb3⟩ : ∃ b3, b1.extract m2 b1.size = b3 := ⟨_, rfl⟩
                rw [ea2, eb2, ea3, eb3] at HT
                rw [ea2] at za
                rw [eb2] at zb
                rw [ea3] at sa
                rw [eb3] at sb
                have HS := Lib.hid (show a3.size + b3.size < a.size + b.size ∧ a3.size ≤ a1.size ∧ b3.size ≤ b1.size by have := SA1.out; omega)
                have HN := Lib.hid (compare_c a2 b2)
                clear sa sb za zb
                generalize cmpB (bs a2) (bs b2) = c at HT HN
                by_cases hc : c = 0
                · subst hc
                  rw [if_neg (by simp)] at HT
                  have hB0 : ((0 : Int) != 0) = false := by simp
                  clear hm
                  go_wp2_with fail
                  rw [HX0.out]
                  refine (HD.out _).mono ?_
                  rintro e w' ⟨rfl, rfl⟩
                  have hxx := HX0.out
                  go_wp2_with fail
                  refine wp_region_ord (fun w' => w'.cell? ⟨H, 0, none⟩ = some (.string a1) ∧ w'.cell? ⟨H + 1, 0, none⟩ = some (.string b1)) 5 [(true, 0), (true, 2), (false, 1), (false, 3), (false, 4), (false, 5)] (by kernel_rfl) (by kernel_rfl) (fun _ _ d _ _ h => by cases d <;> exact h) ⟨c13, c23⟩ ?_
                  intro wd hwd hS
                  clear hS
                  have ewd := hwd.out
                  clear hwd
                  subst ewd
                  simp only [ordOps, List.map_cons, List.map_nil, Array.getD_eq_getD_getElem?, List.getElem?_toArray, List.getElem?_cons_succ, List.getElem?_cons_zero, Option.getD_some]
                  refine wpOrd_q rfl (.string a1) (fun w' hS' K hK => (by have q1 := hS'.1; have q2 := hS'.2; clear hS'; go_simp; exact hK)) (fun K hK => ?_)
                  go_simp
                  refine hK _ ?_
                  clear hK K
                  refine wpOrd_q rfl (.string b1) (fun w' hS' K hK => (by have q1 := hS'.1; have q2 := hS'.2; clear hS'; go_simp; exact hK)) (fun K hK => ?_)
                  go_simp
                  refine hK _ ?_
                  clear hK K
                  refine wpOrd_l rfl (fun K hK => ?_)
                  go_simp
                  refine (HCA.out _).mono ?_
                  rintro e w' ⟨rfl, rfl⟩
                  refine hK _ _ ⟨fun _ => ⟨c13, c23⟩, ?_⟩
                  clear hK K
                  refine wpOrd_l rfl (fun K hK => ?_)
                  go_simp
                  refine (HCB.out _).mono ?_
                  rintro e w' ⟨rfl, rfl⟩
                  refine hK _ _ ⟨fun _ => ⟨c13, c23⟩, ?_⟩
                  clear hK K
                  refine wpOrd_l rfl (fun K hK => ?_)
                  go_simp
                  refine hK _ _ ⟨fun _ => ⟨c13, c23⟩, ?_⟩
                  clear hK K
                  refine wpOrd_l rfl (fun K hK => ?_)
                  go_simp
                  refine hK _ _ ⟨fun h => absurd rfl h, ?_⟩
                  clear hK K
                  refine wpOrd_nil ?_
                  go_wp2_with fail
                  have X4 := HX3.out.dr 1
                  have B4 := HB3.out.drew
                  change Boxes _ (World.drew W3) _ _ at X4
                  change Below _ _ (World.drew W3) at B4
                  generalize World.drew W3 = W4 at X4 B4 ⊢
                  have HX4 := Lib.hid X4
                  have HB4 := Lib.hid B4
                  have c14 := X4.ca
                  have c24 := X4.cb
                  have f14 := X4.fa
                  have f24 := X4.fb
                  clear X4 B4
                  go_wp2_with fail
                  go_still_tail 6, (by kernel_rfl)
                  change wpList _ _ _ _ _ W4.drew
                  go_wp2_with fail
                  refine (HN.out _).mono ?_
                  rintro e w' ⟨rfl, rfl⟩
                  clear c14 c24 f14 f24
                  have X5 := HX4.out.dr 1
                  have B5 := HB4.out.drew
                  change Boxes _ (World.drew W4) _ _ at X5
                  change Below _ _ (World.drew W4) at B5
                  generalize World.drew W4 = W5 at X5 B5 ⊢
                  have HX5 := Lib.hid X5
                  have HB5 := Lib.hid B5
                  have c15 := X5.ca
                  have c25 := X5.cb
                  have f15 := X5.fa
                  have f25 := X5.fb
                  clear X5 B5
                  go_wp2_with fail
                  refine Two.wp_region_ord2 (fun w' => w'.cell? ⟨H, 0, none⟩ = some (.string a1)) (fun w' => w'.cell? ⟨H + 1, 0, none⟩ = some (.string b1)) 6 7 [(.qa, 0), (.qa, 1), (.qa, 2), (.qb, 3), (.qb, 4), (.qb, 5), (.l1, 6), (.l2, 7)] (by kernel_rfl) (by kernel_rfl) (fun _ _ d _ _ h => by cases d <;> exact h) c15 c25 ?_
                  intro wd hwd hS hS'
                  clear hS hS'
                  have ewd := hwd.out
                  clear hwd
                  subst ewd
                  simp only [Two.ordOps2, List.map_cons, List.map_nil, Array.getD_eq_getD_getElem?, List.getElem?_toArray, List.getElem?_cons_succ, List.getElem?_cons_zero, Option.getD_some]
                  refine Two.step_qa rfl (.string a1) (fun w' hS' K hK => (by have q1 : w'.cell? _ = some _ := hS'; clear hS'; go_simp; exact hK)) (fun K hK => ?_)
                  go_simp
                  refine hK _ ?_
                  clear hK K
                  refine Two.step_qa rfl (.int .i64 n2) (fun w' hS' K hK => (by clear hS'; go_simp; exact hK)) (fun K hK => ?_)
                  go_simp
                  refine hK _ ?_
                  clear hK K
                  refine Two.step_qa rfl (.string a3) (fun w' hS' K hK => (by clear hS'; go_simp; exact hK)) (fun K hK => ?_)
                  go_simp
                  refine hK _ ?_
                  clear hK K
                  refine Two.step_qb rfl (.string b1) (fun w' hS' K hK => (by have q1 : w'.cell? _ = some _ := hS'; clear hS'; go_simp; exact hK)) (fun K hK => ?_)
                  go_simp
                  refine hK _ ?_
                  clear hK K
                  refine Two.step_qb rfl (.int .i64 m2) (fun w' hS' K hK => (by clear hS'; go_simp; exact hK)) (fun K hK => ?_)
                  go_simp
                  refine hK _ ?_
                  clear hK K
                  refine Two.step_qb rfl (.string b3) (fun w' hS' K hK => (by clear hS'; go_simp; exact hK)) (fun K hK => ?_)
                  go_simp
                  refine hK _ ?_
                  clear hK K
                  refine Two.step_l1 rfl (fun K hK => ?_)
                  go_simp
                  refine hK _ _ ⟨(HX5.out.dr 1 |>.seta a3).cb, ?_⟩
                  clear hK K
                  refine Two.step_l2 rfl (fun K hK => ?_)
                  go_simp
                  refine hK _ _ ?_
                  clear hK K
                  refine Two.step_nil ?_
                  try go_wp2
                  have X9 := (HX5.out.set a3 b3).dr 1
                  have B9 := (below_sets HB5.out a3 b3).drew
                  change Boxes _ (World.drew ((W5.setCell ⟨H, 0, none⟩ (.string a3)).setCell ⟨H + 1, 0, none⟩ (.string b3))) _ _ at X9
                  change Below _ _ (World.drew ((W5.setCell ⟨H, 0, none⟩ (.string a3)).setCell ⟨H + 1, 0, none⟩ (.string b3))) at B9
                  generalize World.drew ((W5.setCell ⟨H, 0, none⟩ (.string a3)).setCell ⟨H + 1, 0, none⟩ (.string b3)) = W9 at X9 B9 ⊢
                  have HX9 := Lib.hid X9
                  have HB9 := Lib.hid B9
                  have c19 := X9.ca
                  have c29 := X9.cb
                  have f19 := X9.fa
                  have f29 := X9.fb
                  clear X9 B9
                  go_step3
                  refine ⟨rfl, RpmJ.mk a3 b3 ?_ ?_ HB9.out HX9.out HT.out, ?_⟩
                  · have := HS.out; omega
                  · have := HS.out; omega
                  · rw [HX9.out.len, HL.out]
                    have := HS.out
                    omega
                · rw [if_pos hc] at HT
                  have hBc : (c != 0) = true := by simpa using hc
                  clear hc hm
                  go_wp2_with fail
                  rw [HX0.out]
                  refine (HD.out _).mono ?_
                  rintro e w' ⟨rfl, rfl⟩
                  have hxx := HX0.out
                  go_wp2_with fail
                  refine wp_region_ord (fun w' => w'.cell? ⟨H, 0, none⟩ = some (.string a1) ∧ w'.cell? ⟨H + 1, 0, none⟩ = some (.string b1)) 5 [(true, 0), (true, 2), (false, 1), (false, 3), (false, 4), (false, 5)] (by kernel_rfl) (by kernel_rfl) (fun _ _ d _ _ h => by cases d <;> exact h) ⟨c13, c23⟩ ?_
                  intro wd hwd hS
                  clear hS
                  have ewd := hwd.out
                  clear hwd
                  subst ewd
                  simp only [ordOps, List.map_cons, List.map_nil, Array.getD_eq_getD_getElem?, List.getElem?_toArray, List.getElem?_cons_succ, List.getElem?_cons_zero, Option.getD_some]
                  refine wpOrd_q rfl (.string a1) (fun w' hS' K hK => (by have q1 := hS'.1; have q2 := hS'.2; clear hS'; go_simp; exact hK)) (fun K hK => ?_)
                  go_simp
                  refine hK _ ?_
                  clear hK K
                  refine wpOrd_q rfl (.string b1) (fun w' hS' K hK => (by have q1 := hS'.1; have q2 := hS'.2; clear hS'; go_simp; exact hK)) (fun K hK => ?_)
                  go_simp
                  refine hK _ ?_
                  clear hK K
                  refine wpOrd_l rfl (fun K hK => ?_)
                  go_simp
                  refine (HCA.out _).mono ?_
                  rintro e w' ⟨rfl, rfl⟩
                  refine hK _ _ ⟨fun _ => ⟨c13, c23⟩, ?_⟩
                  clear hK K
                  refine wpOrd_l rfl (fun K hK => ?_)
                  go_simp
                  refine (HCB.out _).mono ?_
                  rintro e w' ⟨rfl, rfl⟩
                  refine hK _ _ ⟨fun _ => ⟨c13, c23⟩, ?_⟩
                  clear hK K
                  refine wpOrd_l rfl (fun K hK => ?_)
                  go_simp
                  refine hK _ _ ⟨fun _ => ⟨c13, c23⟩, ?_⟩
                  clear hK K
                  refine wpOrd_l rfl (fun K hK => ?_)
                  go_simp
                  refine hK _ _ ⟨fun h => absurd rfl h, ?_⟩
                  clear hK K
                  refine wpOrd_nil ?_
                  go_wp2_with fail
                  have X4 := HX3.out.dr 1
                  have B4 := HB3.out.drew
                  change Boxes _ (World.drew W3) _ _ at X4
                  change Below _ _ (World.drew W3) at B4
                  generalize World.drew W3 = W4 at X4 B4 ⊢
                  have HX4 := Lib.hid X4
                  have HB4 := Lib.hid B4
                  have c14 := X4.ca
                  have c24 := X4.cb
                  have f14 := X4.fa
                  have f24 := X4.fb
                  clear X4 B4
                  go_wp2_with fail
                  go_still_tail 6, (by kernel_rfl)
                  change wpList _ _ _ _ _ W4.drew
                  go_wp2_with fail
                  refine (HN.out _).mono ?_
                  rintro e w' ⟨rfl, rfl⟩
                  clear c14 c24 f14 f24
                  have X5 := HX4.out.dr 1
                  have B5 := HB4.out.drew
                  change Boxes _ (World.drew W4) _ _ at X5
                  change Below _ _ (World.drew W4) at B5
                  generalize World.drew W4 = W5 at X5 B5 ⊢
                  have HX5 := Lib.hid X5
                  have HB5 := Lib.hid B5
                  have c15 := X5.ca
                  have c25 := X5.cb
                  have f15 := X5.fa
                  have f25 := X5.fb
                  clear X5 B5
                  go_wp2
                  try simp only [Exit.jump]
                  go_ret
                  exact ⟨by rw [← HT.out]; rfl, by rw [HH.out]; exact HB5.out⟩
      · have pb := hd_size hv
        have eb := bs_nonempty pb
        by_cases h0 : a1.size = 0
        · obtain rfl := bs_zero h0
          clear h0
          rw [rpmS_caretE hx hy (by rw [hu, hv]; simp) (.inl rfl), hu, hv] at HT
          clear hu hv
          go_wp2_with fail
          refine (order_c _ _ (1) (by decide) _).mono ?_
          rintro e w' ⟨rfl, rfl⟩
          go_wp2
          try simp only [Exit.jump]
          go_ret
          exact ⟨by rw [← HT.out]; rfl, by rw [HH.out]; exact HB3.out⟩
        · have pa : 0 < a1.size := by omega
          have ea := bs_nonempty pa
          clear h0
          rw [rpmS_caretN hx hy (by rw [hu, hv]; simp) (by rw [hu, hv]; simp) (by rw [Ne, bs_nil]; omega) (by rw [Ne, bs_nil]; omega), hu, hv] at HT
          clear hu hv
          go_wp2_with fail
          refine (order_c _ _ (-1) (by decide) _).mono ?_
          rintro e w' ⟨rfl, rfl⟩
          go_wp2
          try simp only [Exit.jump]
          go_ret
          exact ⟨by rw [← HT.out]; rfl, by rw [HH.out]; exact HB3.out⟩
      · have pa := hd_size hu
        have ea := bs_nonempty pa
        by_cases h0 : b1.size = 0
        · obtain rfl := bs_zero h0
          clear h0
          rw [rpmS_caretE hx hy (by rw [hu, hv]; simp) (.inr rfl), hu, hv] at HT
          clear hu hv
          go_wp2_with fail
          refine (order_c _ _ (1) (by decide) _).mono ?_
          rintro e w' ⟨rfl, rfl⟩
          go_wp2
          try simp only [Exit.jump]
          go_ret
          exact ⟨by rw [← HT.out]; rfl, by rw [HH.out]; exact HB3.out⟩
        · have pb : 0 < b1.size := by omega
          have eb := bs_nonempty pb
          clear h0
          rw [rpmS_caretN hx hy (by rw [hu, hv]; simp) (by rw [hu, hv]; simp) (by rw [Ne, bs_nil]; omega) (by rw [Ne, bs_nil]; omega), hu, hv] at HT
          clear hu hv
          go_wp2_with fail
          refine (order_c _ _ (-1) (by decide) _).mono ?_
          rintro e w' ⟨rfl, rfl⟩
          go_wp2
          try simp only [Exit.jump]
          go_ret
          exact ⟨by rw [← HT.out]; rfl, by rw [HH.out]; exact HB3.out⟩
      · rw [rpmS_caret2 hx hy hu hv] at HT
        have pa := hd_size hu
        have pb := hd_size hv
        have ia : (1 : Int) ≤ (a1.size : Int) := by omega
        have ib : (1 : Int) ≤ (b1.size : Int) := by omega
        have ta := bs_drop a1 1
        have tb := bs_drop b1 1
        rw [List.drop_one] at ta tb
        rw [← ta, ← tb] at HT
        have ta2 := size_tail a1 1
        have tb2 := size_tail b1 1
        obtain ⟨a2, ea2⟩ : ∃ a2, a1.extract 1 a1.size = a2 := ⟨_, rfl⟩
        obtain ⟨b2, eb2⟩ : ∃ b2, b1.extract 1 b1.size = b2 := ⟨_, rfl⟩
        rw [ea2] at ta2 HT
        rw [eb2] at tb2 HT
        have HS := Lib.hid (show a2.size < a.size ∧ b2.size < b.size by have := SA1.out; omega)
        clear ta tb ta2 tb2 hu hv
        go_wp2_with fail
        refine Two.wp_region_ord2 (fun w' => w'.cell? ⟨H, 0, none⟩ = some (.string a1)) (fun w' => w'.cell? ⟨H + 1, 0, none⟩ = some (.string b1)) 4 5 [(.qa, 0), (.qa, 1), (.qb, 2), (.qb, 3), (.l1, 4), (.l2, 5)] (by kernel_rfl) (by kernel_rfl) (fun _ _ d _ _ h => by cases d <;> exact h) c13 c23 ?_
        intro wd hwd hS hS'
        clear hS hS'
        have ewd := hwd.out
        clear hwd
        subst ewd
        simp only [Two.ordOps2, List.map_cons, List.map_nil, Array.getD_eq_getD_getElem?, List.getElem?_toArray, List.getElem?_cons_succ, List.getElem?_cons_zero, Option.getD_some]
        refine Two.step_qa rfl (.string a1) (fun w' hS' K hK => (by have q1 : w'.cell? _ = some _ := hS'; clear hS'; go_simp; exact hK)) (fun K hK => ?_)
        go_simp
        refine hK _ ?_
        clear hK K
        refine Two.step_qa rfl (.string a2) (fun w' hS' K hK => (by clear hS'; go_simp; exact hK)) (fun K hK => ?_)
        go_simp
        refine hK _ ?_
        clear hK K
        refine Two.step_qb rfl (.string b1) (fun w' hS' K hK => (by have q1 : w'.cell? _ = some _ := hS'; clear hS'; go_simp; exact hK)) (fun K hK => ?_)
        go_simp
        refine hK _ ?_
        clear hK K
        refine Two.step_qb rfl (.string b2) (fun w' hS' K hK => (by clear hS'; go_simp; exact hK)) (fun K hK => ?_)
        go_simp
        refine hK _ ?_
        clear hK K
        refine Two.step_l1 rfl (fun K hK => ?_)
        go_simp
        refine hK _ _ ⟨(HX3.out.dr 1 |>.seta a2).cb, ?_⟩
        clear hK K
        refine Two.step_l2 rfl (fun K hK => ?_)
        go_simp
        refine hK _ _ ?_
        clear hK K
        refine Two.step_nil ?_
        try go_wp2
        have X9 := (HX3.out.set a2 b2).dr 1
        have B9 := (below_sets HB3.out a2 b2).drew
        change Boxes _ (World.drew ((W3.setCell ⟨H, 0, none⟩ (.string a2)).setCell ⟨H + 1, 0, none⟩ (.string b2))) _ _ at X9
        change Below _ _ (World.drew ((W3.setCell ⟨H, 0, none⟩ (.string a2)).setCell ⟨H + 1, 0, none⟩ (.string b2))) at B9
        generalize World.drew ((W3.setCell ⟨H, 0, none⟩ (.string a2)).setCell ⟨H + 1, 0, none⟩ (.string b2)) = W9 at X9 B9 ⊢
        have HX9 := Lib.hid X9
        have HB9 := Lib.hid B9
        have c19 := X9.ca
        have c29 := X9.cb
        have f19 := X9.fa
        have f29 := X9.fb
        clear X9 B9
        go_step3
        refine ⟨rfl, RpmJ.mk a2 b2 ?_ ?_ HB9.out HX9.out HT.out, ?_⟩
        · have := HS.out; omega
        · have := HS.out; omega
        · rw [HX9.out.len, HL.out]
          have := HS.out
          omega
    · rw [rpmS_tilde (by rw [hx, hy]; simp) (by rw [hx, hy]; simp), hx, hy] at HT
      clear hx hy
      go_wp2_with fail
      refine (order_c _ _ (-1) (by decide) _).mono ?_
      rintro e w' ⟨rfl, rfl⟩
      go_wp2
      try simp only [Exit.jump]
      go_ret
      exact ⟨by rw [← HT.out]; rfl, by rw [HH.out]; exact HB2.out⟩
    · rw [rpmS_tilde (by rw [hx, hy]; simp) (by rw [hx, hy]; simp), hx, hy] at HT
      clear hx hy
      go_wp2_with fail
      refine (order_c _ _ (-1) (by decide) _).mono ?_
      rintro e w' ⟨rfl, rfl⟩
      go_wp2
      try simp only [Exit.jump]
      go_ret
      exact ⟨by rw [← HT.out]; rfl, by rw [HH.out]; exact HB2.out⟩
    · rw [rpmS_two hx hy] at HT
      have pa := hd_size hx
      have pb := hd_size hy
      have ia : (1 : Int) ≤ (a1.size : Int) := by omega
      have ib : (1 : Int) ≤ (b1.size : Int) := by omega
      have ta := bs_drop a1 1
      have tb := bs_drop b1 1
      rw [List.drop_one] at ta tb
      rw [← ta, ← tb] at HT
      have ta2 := size_tail a1 1
      have tb2 := size_tail b1 1
      obtain ⟨a2, ea2⟩ : ∃ a2, a1.extract 1 a1.size = a2 := ⟨_, rfl⟩
      obtain ⟨b2, eb2⟩ : ∃ b2, b1.extract 1 b1.size = b2 := ⟨_, rfl⟩
      rw [ea2] at ta2 HT
      rw [eb2] at tb2 HT
      have HS := Lib.hid (show a2.size < a.size ∧ b2.size < b.size by have := SA1.out; omega)
      clear ta tb ta2 tb2 hx hy
      go_wp2_with fail
      refine Two.wp_region_ord2 (fun w' => w'.cell? ⟨H, 0, none⟩ = some (.string a1)) (fun w' => w'.cell? ⟨H + 1, 0, none⟩ = some (.string b1)) 4 5 [(.qa, 0), (.qa, 1), (.qb, 2), (.qb, 3), (.l1, 4), (.l2, 5)] (by kernel_rfl) (by kernel_rfl) (fun _ _ d _ _ h => by cases d <;> exact h) c12 c22 ?_
      intro wd hwd hS hS'
      clear hS hS'
      have ewd := hwd.out
      clear hwd
      subst ewd
      simp only [Two.ordOps2, List.map_cons, List.map_nil, Array.getD_eq_getD_getElem?, List.getElem?_toArray, List.getElem?_cons_succ, List.getElem?_cons_zero, Option.getD_some]
      refine Two.step_qa rfl (.string a1) (fun w' hS' K hK => (by have q1 : w'.cell? _ = some _ := hS'; clear hS'; go_simp; exact hK)) (fun K hK => ?_)
      go_simp
      refine hK _ ?_
      clear hK K
      refine Two.step_qa rfl (.string a2) (fun w' hS' K hK => (by clear hS'; go_simp; exact hK)) (fun K hK => ?_)
      go_simp
      refine hK _ ?_
      clear hK K
      refine Two.step_qb rfl (.string b1) (fun w' hS' K hK => (by have q1 : w'.cell? _ = some _ := hS'; clear hS'; go_simp; exact hK)) (fun K hK => ?_)
      go_simp
      refine hK _ ?_
      clear hK K
      refine Two.step_qb rfl (.string b2) (fun w' hS' K hK => (by clear hS'; go_simp; exact hK)) (fun K hK => ?_)
      go_simp
      refine hK _ ?_
      clear hK K
      refine Two.step_l1 rfl (fun K hK => ?_)
      go_simp
      refine hK _ _ ⟨(HX2.out.dr 1 |>.seta a2).cb, ?_⟩
      clear hK K
      refine Two.step_l2 rfl (fun K hK => ?_)
      go_simp
      refine hK _ _ ?_
      clear hK K
      refine Two.step_nil ?_
      try go_wp2
      have X9 := (HX2.out.set a2 b2).dr 1
      have B9 := (below_sets HB2.out a2 b2).drew
      change Boxes _ (World.drew ((W2.setCell ⟨H, 0, none⟩ (.string a2)).setCell ⟨H + 1, 0, none⟩ (.string b2))) _ _ at X9
      change Below _ _ (World.drew ((W2.setCell ⟨H, 0, none⟩ (.string a2)).setCell ⟨H + 1, 0, none⟩ (.string b2))) at B9
      generalize World.drew ((W2.setCell ⟨H, 0, none⟩ (.string a2)).setCell ⟨H + 1, 0, none⟩ (.string b2)) = W9 at X9 B9 ⊢
      have HX9 := Lib.hid X9
      have HB9 := Lib.hid B9
      have c19 := X9.ca
      have c29 := X9.cb
      have f19 := X9.fa
      have f29 := X9.fb
      clear X9 B9
      go_step3
      refine ⟨rfl, RpmJ.mk a2 b2 ?_ ?_ HB9.out HX9.out HT.out, ?_⟩
      · have := HS.out; omega
      · have := HS.out; omega
      · rw [HX9.out.len, HL.out]
        have := HS.out
        omega

  · intro hB
    have HB := Lib.hid hB
    clear hB
    go_wp2
    rename_i K hK
    go_step3
    refine hK _ _ (HB.out _ _ (RpmJ.mk a0 b0 (by unfold maxLen at ha; omega) (by unfold maxLen at hb; omega) ?_ ?_ HT.out))
    · exact (below2 w _ _).alloc (by simp; omega) _
    · exact boxes_new w a0 b0
end Go.Proofs.YtgggbjkgpjcklaaDoor
