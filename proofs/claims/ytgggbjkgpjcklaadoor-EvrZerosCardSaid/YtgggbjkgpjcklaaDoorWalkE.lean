/-
  A loop by goto; Debian's texts: the contract. Helper text (printed by gen_deb.py); the conditions are those typed.
-/
import Derived.Test.YtgggbjkgpjcklaaDoorWalkD
import Derived.WalkMore
import Derived.ScopeJumps
import Derived.StillTailTactics
namespace Go.Proofs.YtgggbjkgpjcklaaDoor
set_option linter.unusedVariables false
set_option linter.unusedSimpArgs false
open Go.RowKit

/-- A scope with one label: what holds at the label, a measure, the way from the label walked once. -/
theorem wp_scope_share {P : Program} {a : Act} {w : World} {Q : Exit → Act → World → Prop} {c B : Code} (l : Nat) (J : Act → World → Prop) (μ : Act → World → Nat) (hf : findLabel c l = some (.seq .skip B))
    (pass : ∀ a w, J a w → B.wp P (Exit.jump l (fun a' w' => J a' w' ∧ μ a' w' < μ a w) Q) a w)
    (first : (∀ a w, J a w → B.wp P (Exit.jump l J Q) a w) → c.wp P (Exit.jump l J Q) a w) : (Code.scope c).wp P Q a w := by
  have hm : ∀ a w, J a w → B.wp P (Exit.jump l J Q) a w := fun a w hj => Code.wp_mono (fun e a' w' h => by
    cases e with
    | goto l' => exact ⟨h.1, h.2.1⟩
    | normal => exact h
    | exit id => exact h
    | ret => exact h
    | panic ch => exact h
    | outgrown => exact h) (pass a w hj)
  exact wp_scope_jumps l J μ hf (first hm) fun a w hj => wp_seq (wp_skip (pass a w hj))

theorem below_to {B B' : Nat} {w w' : World} (h : Below B w w') (hb : B' ≤ B) : Below B' w w' := ⟨h.os, h.tape, h.output, h.size, fun k hk => h.block k (by omega)⟩

theorem size_le {s : ByteArray} {a b : Nat} : (s.extract a b).size ≤ s.size := by
  rw [← bs_length, ← bs_length]
  show (s.extract a b).data.toList.length ≤ s.data.toList.length
  rw [Lib.extract_data, List.length_take, List.length_drop]
  omega
theorem bs_drop (s : ByteArray) (i : Nat) : bs (s.extract i s.size) = (bs s).drop i := Lib.extract_to_end s i

/-- What holds at deb's label. -/
def DebJ (T : Int) (w : World) (x : Act) (wr : World) : Prop :=
  ∃ (a b : ByteArray) (u5 u6 u7 u8 u9 u10 u11 u12 u13 u14 u15 u16 u17 u18 u19 u20 u21 u22 u23 u24 u25 u26 u27 u28 u29 u30 u31 u32 u33 u34 u35 u36 u37 u38 u39 u40 u41 u42 u43 u44 u45 u46 u47 u48 u49 u50 u51 u52 u53 u54 u55 : Value), x = { tmps := #[.string a, .string b, undef, undef, .int .i64 0, u5, u6, u7, u8, u9, u10, u11, u12, u13, u14, u15, u16, u17, u18, u19, u20, u21, u22, u23, u24, u25, u26, u27, u28, u29, u30, u31, u32, u33, u34, u35, u36, u37, u38, u39, u40, u41, u42, u43, u44, u45, u46, u47, u48, u49, u50, u51, u52, u53, u54, u55], defers := [] } ∧ a.size ≤ 9223372036854775807 ∧ b.size ≤ 9223372036854775807 ∧ Below w.heap.size w wr ∧ debT (bs a) (bs b) = T
theorem DebJ.mk {T : Int} {w wr : World} {u5 u6 u7 u8 u9 u10 u11 u12 u13 u14 u15 u16 u17 u18 u19 u20 u21 u22 u23 u24 u25 u26 u27 u28 u29 u30 u31 u32 u33 u34 u35 u36 u37 u38 u39 u40 u41 u42 u43 u44 u45 u46 u47 u48 u49 u50 u51 u52 u53 u54 u55 : Value} (a b : ByteArray) (ha : a.size ≤ 9223372036854775807) (hb : b.size ≤ 9223372036854775807) (hw : Below w.heap.size w wr) (hT : debT (bs a) (bs b) = T) :
    DebJ T w { tmps := #[.string a, .string b, undef, undef, .int .i64 0, u5, u6, u7, u8, u9, u10, u11, u12, u13, u14, u15, u16, u17, u18, u19, u20, u21, u22, u23, u24, u25, u26, u27, u28, u29, u30, u31, u32, u33, u34, u35, u36, u37, u38, u39, u40, u41, u42, u43, u44, u45, u46, u47, u48, u49, u50, u51, u52, u53, u54, u55], defers := [] } wr := ⟨a, b, u5, u6, u7, u8, u9, u10, u11, u12, u13, u14, u15, u16, u17, u18, u19, u20, u21, u22, u23, u24, u25, u26, u27, u28, u29, u30, u31, u32, u33, u34, u35, u36, u37, u38, u39, u40, u41, u42, u43, u44, u45, u46, u47, u48, u49, u50, u51, u52, u53, u54, u55, rfl, ha, hb, hw, hT⟩
def strLen : Value → Nat
  | .string s => s.size
  | _ => 0

theorem debT_w {a b : List UInt8} (h : weight a ≠ 0 ∨ weight b ≠ 0) : debT a b = if weight a ≠ weight b then sgn (weight a - weight b) else debT a.tail b.tail := by
  rw [debT, dif_pos h]
  rfl
theorem debT_d {a b : List UInt8} (h1 : weight a = 0) (h2 : weight b = 0) : debT a b = if cmpN (a.take (cnt dig a)) (b.take (cnt dig b)) ≠ 0 then cmpN (a.take (cnt dig a)) (b.take (cnt dig b)) else if a.drop (cnt dig a) = [] ∧ b.drop (cnt dig b) = [] then 0 else debT (a.drop (cnt dig a)) (b.drop (cnt dig b)) := by
  rw [debT, dif_neg (by rintro (h | h); exact h h1; exact h h2)]
  rfl

set_option maxHeartbeats 4000000 in
set_option maxRecDepth 100000 in
theorem deb_c (a b : ByteArray) (ha : a.size ≤ maxLen) (hb : b.size ≤ maxLen) (w : World) :
    Calls Tryd.prog 44 #[.string a, .string b] w fun e w' => e = .returned (.int .i64 (debT (bs a) (bs b))) ∧ Below w.heap.size w w' := by
  generalize hT : debT (bs a) (bs b) = T
  have HT := Lib.hid hT
  clear hT
  go_enter Tryd.func44, Tryd.ntmps44
  go_wp2
  refine wp_scope_share 0 (DebJ T w) (fun x _ => strLen (x.tmps.getD 0 undef) + strLen (x.tmps.getD 1 undef)) rfl ?_ ?_
  · rintro x wr ⟨a, b, u5, u6, u7, u8, u9, u10, u11, u12, u13, u14, u15, u16, u17, u18, u19, u20, u21, u22, u23, u24, u25, u26, u27, u28, u29, u30, u31, u32, u33, u34, u35, u36, u37, u38, u39, u40, u41, u42, u43, u44, u45, u46, u47, u48, u49, u50, u51, u52, u53, u54, u55, rfl, ha, hb, hbel, hT⟩
    have HB := Lib.hid hbel
    have HT := Lib.hid hT
    clear hbel hT
    have HWA := Lib.hid (weight_c a ha)
    have HWB := Lib.hid (weight_c b hb)
    by_cases hw : weight (bs a) ≠ 0 ∨ weight (bs b) ≠ 0
    · rw [debT_w hw] at HT
      by_cases hww : weight (bs a) = weight (bs b)
      · have hn : weight (bs a) ≠ 0 := by rcases hw with h | h; exact h; rw [hww]; exact h
        have ea : bs a ≠ [] := weight_ne hn
        have eb : bs b ≠ [] := weight_ne (by rw [← hww]; exact hn)
        have pa : 0 < a.size := by rw [Ne, bs_nil] at ea; omega
        have pb : 0 < b.size := by rw [Ne, bs_nil] at eb; omega
        rw [if_neg (by simpa using hww)] at HT
        have ia : (1 : Int) ≤ (a.size : Int) := by omega
        have ib : (1 : Int) ≤ (b.size : Int) := by omega
        have ta := bs_drop a 1
        have tb := bs_drop b 1
        rw [List.drop_one] at ta tb
        rw [← ta, ← tb] at HT
        have sa := size_tail a 1
        have sb := size_tail b 1
        generalize weight (bs a) = x at *
        generalize weight (bs b) = y at *
        subst hww
        have hB1 : (x != 0) = true := by simpa using hn
        have hB2 : (x != x) = false := by simp
        obtain ⟨a2, ea2⟩ : ∃ a2, a.extract 1 a.size = a2 := ⟨_, rfl⟩
        obtain ⟨b2, eb2⟩ : ∃ b2, b.extract 1 b.size = b2 := ⟨_, rfl⟩
        rw [ea2] at sa HT
        rw [eb2] at sb HT
        have SA := Lib.hid sa
        have SB := Lib.hid sb
        clear ta tb sa sb hw hn ea eb
        go_wp2_with fail
        refine (HWA.out _).mono ?_
        rintro e w' ⟨rfl, rfl⟩
        go_wp2_with fail
        refine (HWB.out _).mono ?_
        rintro e w' ⟨rfl, rfl⟩
        go_wp2
        go_quiet (fail)
        go_wp2
        go_step3
        exact ⟨rfl, DebJ.mk a2 b2 (by have := SA.out; omega) (by have := SB.out; omega) (below_dr HB.out _) HT.out, by have := SA.out; have := SB.out; show strLen (.string a2) + strLen (.string b2) < strLen (.string a) + strLen (.string b); simp only [strLen]; omega⟩
      · rw [if_pos hww] at HT
        generalize weight (bs a) = x at *
        generalize weight (bs b) = y at *
        have hB2 : (x != y) = true := by simpa using hww
        by_cases hx : x = 0
        · have hB1 : (x != 0) = false := by simpa using hx
          have hB3 : (y != 0) = true := by rcases hw with h | h; exact absurd hx h; simpa using h
          clear hw hww hx
          go_wp2_with fail
          refine (HWA.out _).mono ?_
          rintro e w' ⟨rfl, rfl⟩
          go_wp2_with fail
          refine (HWB.out _).mono ?_
          rintro e w' ⟨rfl, rfl⟩
          go_wp2_with fail
          refine (cmp_c _ _ _).mono ?_
          rintro e w' ⟨rfl, rfl⟩
          go_wp2
          try simp only [Exit.jump]
          go_ret
          exact ⟨by rw [← HT.out]; rfl, HB.out⟩
        · have hB1 : (x != 0) = true := by simpa using hx
          clear hw hww hx
          go_wp2_with fail
          refine (HWA.out _).mono ?_
          rintro e w' ⟨rfl, rfl⟩
          go_wp2_with fail
          refine (HWB.out _).mono ?_
          rintro e w' ⟨rfl, rfl⟩
          go_wp2_with fail
          refine (cmp_c _ _ _).mono ?_
          rintro e w' ⟨rfl, rfl⟩
          go_wp2
          try simp only [Exit.jump]
          go_ret
          exact ⟨by rw [← HT.out]; rfl, HB.out⟩
    · simp only [ne_eq, not_or, Decidable.not_not] at hw
      obtain ⟨w1, w2⟩ := hw
      rw [debT_d w1 w2] at HT
      rw [w1] at HWA
      rw [w2] at HWB
      have HCA := Lib.hid (count_dig a ha)
      have HCB := Lib.hid (count_dig b hb)
      have la := cnt_le dig (bs a)
      have lb := cnt_le dig (bs b)
      rw [bs_length] at la lb
      have posn : ∀ s : ByteArray, weight (bs s) = 0 → (bs s).drop (cnt dig (bs s)) ≠ [] → 1 ≤ cnt dig (bs s) := by
        intro s hw hd
        cases hs : bs s with
        | nil => rw [hs] at hd; simp at hd
        | cons c l =>
          rw [hs] at hw
          by_cases hc : dig c = true
          · exact cnt_pos hc
          · exfalso
            simp only [weight] at hw
            rw [if_neg hc] at hw
            split at hw
            · omega
            · split at hw
              · rename_i h5
                unfold lett at h5
                simp at h5
                omega
              · omega
      have pa := posn a w1
      have pb := posn b w2
      rw [← bs_head, ← bs_head, ← bs_drop, ← bs_drop] at HT
      rw [← bs_drop] at pa pb
      clear w1 w2 posn
      generalize cnt dig (bs a) = n at *
      generalize cnt dig (bs b) = m at *
      have i1 : (0 : Int) ≤ (n : Int) := by omega
      have i2 : (n : Int) ≤ (a.size : Int) := by omega
      have i3 : (0 : Int) ≤ (m : Int) := by omega
      have i4 : (m : Int) ≤ (b.size : Int) := by omega
      have za : (a.extract 0 n).size ≤ a.size := size_le
      have zb : (b.extract 0 m).size ≤ b.size := size_le
      have sa := size_tail a n
      have sb := size_tail b m
      obtain ⟨a1, ea1⟩ : ∃ a1, a.extract 0 n = a1 := ⟨_, rfl⟩
      obtain ⟨b1, eb1⟩ : ∃ b1, b.extract 0 m = b1 := ⟨_, rfl⟩
      obtain ⟨a2, ea2⟩ : ∃ a2, a.extract n a.size = a2 := ⟨_, rfl⟩
      obtain ⟨b2, eb2⟩ : ∃ b2, b.extract m b.size = b2 := ⟨_, rfl⟩
      rw [ea1, eb1, ea2, eb2] at HT
      rw [ea1] at za
      rw [eb1] at zb
      rw [ea2] at pa sa
      rw [eb2] at pb sb
      have HN := Lib.hid (numbers_c a1 b1 (by unfold maxLen at *; omega) (by unfold maxLen at *; omega))
      have SA := Lib.hid sa
      have SB := Lib.hid sb
      have PA := Lib.hid pa
      have PB := Lib.hid pb
      clear sa sb pa pb
      generalize cmpN (bs a1) (bs b1) = c at HT HN
      have hB0 : ((0 : Int) != 0) = false := by simp
      by_cases hc : c = 0
      · subst hc
        rw [if_neg (by simp)] at HT
        by_cases hz : a2.size = 0 ∧ b2.size = 0
        · obtain ⟨z1, z2⟩ := hz
          rw [if_pos ⟨bs_nil.2 z1, bs_nil.2 z2⟩] at HT
          obtain rfl := bs_zero z1
          obtain rfl := bs_zero z2
          clear z1 z2
          go_wp2_with fail
          refine (HWA.out _).mono ?_
          rintro e w' ⟨rfl, rfl⟩
          go_wp2_with fail
          refine (HWB.out _).mono ?_
          rintro e w' ⟨rfl, rfl⟩
          go_wp2_with fail
          refine (HCA.out _).mono ?_
          rintro e w' ⟨rfl, rfl⟩
          go_wp2_with fail
          refine (HCB.out _).mono ?_
          rintro e w' ⟨rfl, rfl⟩
          go_wp2_with fail
          go_still_tail 6, (by kernel_rfl)
          change wpList _ _ _ _ _ wr.drew
          go_wp2_with fail
          refine (HN.out _).mono ?_
          rintro e w3 ⟨rfl, hb3⟩
          have HW3 := Lib.hid ((show Below w.heap.size w wr.drew from ⟨HB.out.os, HB.out.tape, HB.out.output, HB.out.size, HB.out.block⟩).trans (below_to hb3 HB.out.size))
          clear hb3
          go_wp2
          go_quiet (fail)
          go_wp2
          try simp only [Exit.jump]
          go_ret
          exact ⟨by rw [← HT.out]; rfl, below_dr HW3.out _⟩
        · rw [if_neg (fun h => hz ⟨bs_nil.1 h.1, bs_nil.1 h.2⟩)] at HT
          have hnm : 1 ≤ n ∨ 1 ≤ m := by
            by_cases z1 : a2.size = 0
            · exact .inr (PB.out (fun h => hz ⟨z1, bs_nil.1 h⟩))
            · exact .inl (PA.out (fun h => z1 (bs_nil.1 h)))
          by_cases z1 : a2.size = 0
          · have z2 : 0 < b2.size := by omega
            obtain rfl := bs_zero z1
            have hbe := bs_nonempty z2
            clear hz z1 z2
            go_wp2_with fail
            refine (HWA.out _).mono ?_
            rintro e w' ⟨rfl, rfl⟩
            go_wp2_with fail
            refine (HWB.out _).mono ?_
            rintro e w' ⟨rfl, rfl⟩
            go_wp2_with fail
            refine (HCA.out _).mono ?_
            rintro e w' ⟨rfl, rfl⟩
            go_wp2_with fail
            refine (HCB.out _).mono ?_
            rintro e w' ⟨rfl, rfl⟩
            go_wp2_with fail
            go_still_tail 6, (by kernel_rfl)
            change wpList _ _ _ _ _ wr.drew
            go_wp2_with fail
            refine (HN.out _).mono ?_
            rintro e w3 ⟨rfl, hb3⟩
            have HW3 := Lib.hid ((show Below w.heap.size w wr.drew from ⟨HB.out.os, HB.out.tape, HB.out.output, HB.out.size, HB.out.block⟩).trans (below_to hb3 HB.out.size))
            clear hb3
            go_wp2
            go_quiet (fail)
            go_wp2
            go_step3
            exact ⟨rfl, DebJ.mk ⟨#[]⟩ b2 (by decide) (by have := SB.out; omega) (below_dr HW3.out _) HT.out, by have := SA.out; have := SB.out; show strLen (.string ⟨#[]⟩) + strLen (.string b2) < strLen (.string a) + strLen (.string b); simp only [strLen]; omega⟩
          · have hae := bs_nonempty (s := a2) (by omega)
            clear hz z1
            go_wp2_with fail
            refine (HWA.out _).mono ?_
            rintro e w' ⟨rfl, rfl⟩
            go_wp2_with fail
            refine (HWB.out _).mono ?_
            rintro e w' ⟨rfl, rfl⟩
            go_wp2_with fail
            refine (HCA.out _).mono ?_
            rintro e w' ⟨rfl, rfl⟩
            go_wp2_with fail
            refine (HCB.out _).mono ?_
            rintro e w' ⟨rfl, rfl⟩
            go_wp2_with fail
            go_still_tail 6, (by kernel_rfl)
            change wpList _ _ _ _ _ wr.drew
            go_wp2_with fail
            refine (HN.out _).mono ?_
            rintro e w3 ⟨rfl, hb3⟩
            have HW3 := Lib.hid ((show Below w.heap.size w wr.drew from ⟨HB.out.os, HB.out.tape, HB.out.output, HB.out.size, HB.out.block⟩).trans (below_to hb3 HB.out.size))
            clear hb3
            go_wp2
            go_quiet (fail)
            go_wp2
            go_step3
            exact ⟨rfl, DebJ.mk a2 b2 (by have := SA.out; omega) (by have := SB.out; omega) (below_dr HW3.out _) HT.out, by have := SA.out; have := SB.out; show strLen (.string a2) + strLen (.string b2) < strLen (.string a) + strLen (.string b); simp only [strLen]; omega⟩
      · rw [if_pos hc] at HT
        have hBc : (c != 0) = true := by simpa using hc
        clear hc
        go_wp2_with fail
        refine (HWA.out _).mono ?_
        rintro e w' ⟨rfl, rfl⟩
        go_wp2_with fail
        refine (HWB.out _).mono ?_
        rintro e w' ⟨rfl, rfl⟩
        go_wp2_with fail
        refine (HCA.out _).mono ?_
        rintro e w' ⟨rfl, rfl⟩
        go_wp2_with fail
        refine (HCB.out _).mono ?_
        rintro e w' ⟨rfl, rfl⟩
        go_wp2_with fail
        go_still_tail 6, (by kernel_rfl)
        change wpList _ _ _ _ _ wr.drew
        go_wp2_with fail
        refine (HN.out _).mono ?_
        rintro e w3 ⟨rfl, hb3⟩
        have HW3 := Lib.hid ((show Below w.heap.size w wr.drew from ⟨HB.out.os, HB.out.tape, HB.out.output, HB.out.size, HB.out.block⟩).trans (below_to hb3 HB.out.size))
        clear hb3
        go_wp2
        try simp only [Exit.jump]
        go_ret
        exact ⟨by rw [← HT.out]; rfl, HW3.out⟩
  · intro hB
    have HB := Lib.hid hB
    clear hB
    go_wp2
    rename_i K hK
    go_step3
    exact hK _ _ (HB.out _ _ (DebJ.mk a b ha hb (Below.refl _ _) HT.out))
end Go.Proofs.YtgggbjkgpjcklaaDoor
