/-
  Values, ahead, Solve of the document: all values tried. Helper text; the conditions are those typed.
-/
import Derived.Test.YtkeagjphddcjeaaSolS
import Derived.Test.YtkeagjphddcjeaaSatEnum
import Derived.Deep.QuietTactic
import Derived.BigQuiet
namespace Go.Proofs.Ytkeagjphddcjeaa
set_option linter.unusedVariables false
set_option linter.unusedSimpArgs false
open Go.RowKit Go.Maps Sat

theorem two_pow_le {i : Nat} (h : i ≤ 10) : 1 ≤ 2 ^ i ∧ 2 ^ i ≤ 1024 := ⟨Nat.one_le_two_pow, by
  have := Nat.pow_le_pow_right (n := 2) (by omega) h
  simpa using this⟩
theorem shl1 {i : Nat} (h : i ≤ 10) : (1 : Int) * 2 ^ i = ((2 ^ i : Nat) : Int) := by
  rw [Int.one_mul]
  exact (Int.natCast_pow 2 i).symm
def ValuesPost (w : World) (n b : Nat) (e : Ending) (w' : World) : Prop := ∃ g, e = .returned (.slice (some ⟨g, 0, none⟩) n n) ∧ BoxF w' g n (fun u => .bool (vB b u)) 4 ∧ Below w.heap.size w w'
set_option maxHeartbeats 2000000 in
theorem values_c {n b : Nat} (hn : n ≤ 10) (hb : b < 2 ^ n) (w : World) : Calls Try.prog 36 #[.int .i64 (n : Int), .int .i64 (b : Int)] w (ValuesPost w n b) := by
  have hp := (two_pow_le hn).2
  have hb1 : b < 1024 := by omega
  have hmk := mk_bools n (by omega) w
  obtain ⟨Q, hQ⟩ : ∃ Q, ValuesPost w n b = Q := ⟨_, rfl⟩
  rw [hQ]
  replace hQ := Lib.hid hQ
  obtain ⟨w2, hw2⟩ : ∃ w2, w.alloc (.cells (Array.replicate n (.bool false)) 4) = w2 := ⟨_, rfl⟩
  rw [hw2] at hmk
  obtain ⟨gb, hgb⟩ : ∃ gb, w.heap.size = gb := ⟨_, rfl⟩
  rw [hgb] at hmk
  have HW2 : Hid (Below w.heap.size w w2 ∧ BoxF w2 gb n (fun _ => .bool false) 4 ∧ w.heap.size = gb) := by
    rw [← hw2, ← hgb]
    exact ⟨below1 _ _, boxF_alloc _ _ _ _, rfl⟩
  clear hw2 hgb hb hp
  go_enter Try.func36, Try.ntmps36
  go_wp2_with fail
  go_loopg [6] n (fun gf v6 wx => ∃ i : Nat, v6 = .int .i64 (i : Int) ∧ i ≤ n ∧ n ≤ i + gf ∧ Hid (Below w.heap.size w wx ∧ BoxF wx gb n (fun u => .bool (if u < i then vB b u else false)) 4))
  case atStart => exact ⟨0, rfl, Nat.zero_le _, by omega, HW2.out.1, HW2.out.2.1.congr fun u _ => by simp⟩
  case round =>
    obtain ⟨gV, rfl⟩ : ∃ x : Nat, x = gk := ⟨_, rfl⟩
    obtain ⟨u, rfl, hun, hfu, HU⟩ := hrel
    by_cases hu : u < n
    · have hu1 : (u : Int) < (n : Int) := by omega
      have o0 := HU.out.2.cell hu
      have o1 := HU.out.2.frozen u
      obtain ⟨hp1, hp2⟩ := two_pow_le (i := u) (by omega)
      obtain ⟨P, hP⟩ : ∃ P, 2 ^ u = P := ⟨_, rfl⟩
      have hsh : (2 : Int) ^ u = (P : Int) := by rw [← hP]; exact (Int.natCast_pow 2 u).symm
      have HV : Hid (vB b u = (b / P % 2 == 1)) := by
        show vB b u = _
        rw [← hP]
        rfl
      rw [hP] at hp1 hp2
      have hd0 : ((P : Int) == 0) = false := by
        rw [beq_eq_false_iff_ne]
        omega
      clear hP
      go_upto_region 5 with fail
      go_wp2_with fail
      go_roundg (gV - 1)
      case measure => omega
      case rel =>
        refine ⟨u + 1, by go_num, by omega, by omega, ?_⟩
        have e : ((wrap64 ((b : Int) / (P : Int))).tmod 2 == 1) = vB b u := by
          have h1 : (b : Int) / (P : Int) = ((b / P : Nat) : Int) := (Int.natCast_ediv b P).symm
          have h2 : b / P ≤ b := Nat.div_le_self _ _
          rw [HV.out, h1]
          generalize b / P = d at h2
          rw [IntWalk.wrap64_in _ (by omega), Int.tmod_eq_emod_of_nonneg (by omega), Bool.eq_iff_iff]
          simp
          omega
        show Below _ _ _ ∧ BoxF _ _ _ _ _
        rw [e]
        refine ⟨below_sc HU.out.1 (Nat.le_of_eq HW2.out.2.2) _ _, (HU.out.2.set u _).congr fun j hj => ?_⟩
        by_cases hju : j = u
        · rw [if_pos hju, if_pos (by omega), hju]
        · rw [if_neg hju]
          by_cases hj2 : j < u
          · rw [if_pos hj2, if_pos (by omega)]
          · rw [if_neg hj2, if_neg (by omega)]
    · have huE : u = n := by omega
      have HQ : Hid (Q (.returned (.slice (some ⟨gb, 0, none⟩) n n)) wr) := by
        show Q _ _
        rw [← hQ.out]
        refine ⟨gb, rfl, HU.out.2.congr fun j hj => ?_, HU.out.1⟩
        rw [if_pos (by omega)]
      have hu1 : ¬ (u : Int) < (n : Int) := by omega
      go_wp2_with fail
      exact HQ.out

theorem gs_pref {n : Nat} {pr : List Int} {k : Nat} {g : Int} (h : pr[k]? = some g) : (gsOf n pr)[k]? = some g ∧ (gsOf n pr).take k = pr.take k := by
  have hi := (List.getElem?_eq_some_iff.1 h).1
  unfold gsOf
  exact ⟨by rw [List.getElem?_append_left hi]; exact h, by rw [List.take_append_of_le_length (by omega)]⟩
theorem gs_down {n : Nat} {pr : List Int} {i : Nat} (h : i < n) : (gsOf n pr)[pr.length + i]? = some (-(i : Int) - 1) ∧ (gsOf n pr).take (pr.length + i) = pr ++ (List.range i).map fun (v : Nat) => -(v : Int) - 1 := by
  unfold gsOf
  refine ⟨?_, ?_⟩
  · rw [List.getElem?_append_right (by omega), List.getElem?_map, show pr.length + i - pr.length = i by omega, List.getElem?_range h]
    rfl
  · rw [List.take_length_add_append, ← List.map_take, List.take_range, Nat.min_eq_left (by omega)]
theorem parted {a b : Bool} (h : a ≠ b) : (!a) = b := by
  cases a <;> cases b <;> simp_all

set_option maxHeartbeats 4000000 in
theorem ahead_c {n : Nat} (hn : n ≤ 400) {w : World} {ua ub vp : Value} {x y : Asg} {pr : List Int} (ha : BoolsV w ua (bsOf n x)) (hb : BoolsV w ub (bsOf n y)) (hp : IntsV w vp pr) (hpl : pr.length ≤ 17592186044416) (hx : ∀ l ∈ pr, Lok n l) :
    Calls Try.prog 37 #[ua, ub, vp] w fun e w' => e = .returned (.bool (aheadB x y (gsOf n pr))) ∧ ∃ q, w' = w.drewN q := by
  have HLA := Lib.hid (fun (l : Int) (h : l ∈ pr) => lit_c ha hn (hx l h))
  have HLB := Lib.hid (fun (l : Int) (h : l ∈ pr) => lit_c hb hn (hx l h))
  obtain ⟨Q, hQ⟩ : ∃ Q : Ending → World → Prop, (fun e w' => e = .returned (.bool (aheadB x y (gsOf n pr))) ∧ ∃ q, w' = w.drewN q) = Q := ⟨_, rfl⟩
  rw [hQ]
  replace hQ := Lib.hid hQ
  have HQ : Hid (∀ (r : Bool) (q : Nat), aheadB x y (gsOf n pr) = r → Q (.returned (.bool r)) (w.drewN q)) := fun r q h => by
    rw [← hQ.out, ← h]
    exact ⟨rfl, q, rfl⟩
  obtain ⟨aa, ca, rfl, hca, hga⟩ := ha.get
  obtain ⟨ab, cb, rfl, hcb, hgb⟩ := hb.get
  have HGA := Lib.hid hga
  have HGB := Lib.hid hgb
  obtain ⟨a, cap, rfl, hcap, hints⟩ := hp
  obtain ⟨P, hP⟩ : ∃ P, pr.length = P := ⟨_, rfl⟩
  have HIN : Hid (∀ k, k < P → ∃ b o x, a = some ⟨b, o, none⟩ ∧ pr[k]? = some x ∧ w.cell? ⟨b, o + k, none⟩ = some (.int .i64 x)) := fun k hk => by
    have hk' : k < pr.length := by omega
    rcases hints with h | ⟨b, o, h1, _, h3⟩
    · rw [h] at hk'; cases hk'
    · refine ⟨b, o, pr[k], h1, List.getElem?_eq_getElem hk', ?_⟩
      have := h3 k hk'
      rw [List.getD, List.getElem?_eq_getElem hk'] at this
      exact this
  rw [hP] at hcap hpl ⊢
  have HP := Lib.hid hP
  clear hints hP ha hb hx hga hgb
  go_enter Try.func37, Try.ntmps37
  go_wp2_with fail
  go_loopg [7] P (fun gk v7 wx => ∃ k : Nat, v7 = .int .i64 (k : Int) ∧ k ≤ P ∧ P ≤ k + gk ∧ wx = w ∧ Hid (∀ g ∈ pr.take k, litB x g = litB y g))
  case atStart => exact ⟨0, rfl, by omega, by omega, rfl, fun g h => by simp at h⟩
  case round =>
    obtain ⟨gJ, rfl⟩ : ∃ x : Nat, x = gk := ⟨_, rfl⟩
    obtain ⟨k, rfl, hkP, hkk, rfl, HN⟩ := hrel
    by_cases hk : k < P
    · have hk1 : (k : Int) < (P : Int) := by omega
      obtain ⟨b, o, g, hfa, hg, hcx⟩ := HIN.out k hk
      have HL1 := Lib.hid (HLA.out g (List.mem_of_getElem? hg))
      have HL2 := Lib.hid (HLB.out g (List.mem_of_getElem? hg))
      have HE : Hid (litB x g ≠ litB y g → aheadB x y (gsOf n pr) = litB x g) := fun h => by
        obtain ⟨h1, h2⟩ := gs_pref (n := n) hg
        exact aheadB_at h1 (by rw [h2]; exact HN.out) h
      have HS : Hid (litB x g = litB y g → ∀ g ∈ pr.take (k + 1), litB x g = litB y g) := fun h g' hm => by
        have hi := (List.getElem?_eq_some_iff.1 hg).1
        rw [List.take_succ_eq_append_getElem hi, List.mem_append, (List.getElem?_eq_some_iff.1 hg).2, List.mem_singleton] at hm
        rcases hm with hm | hm
        · exact HN.out g' hm
        · rw [hm]; exact h
      subst hfa
      clear hg
      obtain ⟨p, hp⟩ : ∃ p, litB x g = p := ⟨_, rfl⟩
      obtain ⟨r, hr⟩ : ∃ r, litB y g = r := ⟨_, rfl⟩
      rw [hp] at HL1
      rw [hr] at HL2
      rw [hp, hr] at HE HS
      clear hp hr
      by_cases hpr : p = r
      · have HS2 := Lib.hid (HS.out hpr)
        have e1 : (p == r) = true := by simp [hpr]
        clear hpr HE HS
        go_wp2_with fail
        refine HL1.out.mono ?_
        rintro e w5 ⟨rfl, rfl⟩
        go_wp2_with fail
        refine HL2.out.mono ?_
        rintro e w5 ⟨rfl, rfl⟩
        go_wp2_with fail
        go_roundg (gJ - 1)
        case measure => omega
        case rel => exact ⟨k + 1, by go_num, by omega, by omega, rfl, HS2.out⟩
      · have HE2 := Lib.hid (HQ.out p 0 (HE.out hpr))
        have e1 : (p == r) = false := by simp [hpr]
        clear hpr HE HS
        go_wp2_with fail
        refine HL1.out.mono ?_
        rintro e w5 ⟨rfl, rfl⟩
        go_wp2_with fail
        refine HL2.out.mono ?_
        rintro e w5 ⟨rfl, rfl⟩
        go_wp2_with fail
        exact HE2.out
    · have hk1 : ¬ (k : Int) < (P : Int) := by omega
      have HN2 : Hid (∀ g ∈ pr, litB x g = litB y g) := fun g hg => HN.out g (by rw [List.take_of_length_le (by rw [HP.out]; omega)]; exact hg)
      clear HIN HLA HLB
      obtain ⟨w, rfl⟩ : ∃ x : World, x = wr := ⟨_, rfl⟩
      go_wp2_with fail
      go_loopg [10] n (fun gk v10 wx => ∃ i q : Nat, v10 = .int .i64 (i : Int) ∧ i ≤ n ∧ n ≤ i + gk ∧ wx = w.drewN q ∧ Hid (∀ j, j < i → x j = y j))
      case atStart => exact ⟨0, 0, rfl, by omega, by omega, rfl, fun j h => absurd h (Nat.not_lt_zero j)⟩
      case round =>
        obtain ⟨gI, rfl⟩ : ∃ x : Nat, x = gk := ⟨_, rfl⟩
        obtain ⟨i, q, rfl, hin, hik, hwr, HI⟩ := hrel
        by_cases hi : i < n
        · have hi1 : (i : Int) < (n : Int) := by omega
          obtain ⟨b1, o1, e1, hc1⟩ := HGA.out i hi
          obtain ⟨b2, o2, e2, hc2⟩ := HGB.out i hi
          subst e1 e2
          subst hwr
          have d1 : (w.drewN q).cell? ⟨b1, o1 + i, none⟩ = some (.bool (x i)) := hc1
          have d2 : (w.drewN q).cell? ⟨b2, o2 + i, none⟩ = some (.bool (y i)) := hc2
          obtain ⟨w6, hw6⟩ : ∃ w6, w.drewN q = w6 := ⟨_, rfl⟩
          have HW6 := Lib.hid hw6
          rw [hw6] at d1 d2 ⊢
          clear hc1 hc2 hw6
          have HE : Hid (x i ≠ y i → aheadB x y (gsOf n pr) = y i) := fun h => by
            obtain ⟨h1, h2⟩ := gs_down (n := n) (pr := pr) hi
            rw [aheadB_at h1 ?_ ?_, litB_minus]
            · exact parted h
            · rw [h2]
              intro g hg
              rcases List.mem_append.1 hg with hg | hg
              · exact HN2.out g hg
              · obtain ⟨j, hj, rfl⟩ := List.mem_map.1 hg
                rw [litB_minus, litB_minus, HI.out j (List.mem_range.1 hj)]
            · rw [litB_minus, litB_minus]
              intro e
              apply h
              revert e
              cases x i <;> cases y i <;> simp
          have HS : Hid (x i = y i → ∀ j, j < i + 1 → x j = y j) := fun h j hj => by
            by_cases e : j = i
            · rw [e]; exact h
            · exact HI.out j (by omega)
          obtain ⟨p, hp⟩ : ∃ p, x i = p := ⟨_, rfl⟩
          obtain ⟨r, hr⟩ : ∃ r, y i = r := ⟨_, rfl⟩
          rw [hp] at d1
          rw [hr] at d2
          rw [hp, hr] at HE HS
          clear hp hr
          by_cases hpr : p = r
          · have HS2 := Lib.hid (HS.out hpr)
            have e1 : (p == r) = true := by simp [hpr]
            clear hpr HE HS
            go_wp2_with fail
            go_quiet (fail)
            go_wp2_with fail
            go_roundg (gI - 1)
            case measure => omega
            case rel => exact ⟨i + 1, _, by go_num, by omega, by omega, by rw [← HW6.out, World.drewN_drewN], HS2.out⟩
          · have HE2 := Lib.hid (HE.out hpr)
            have e1 : (p == r) = false := by simp [hpr]
            clear hpr HE HS
            go_wp2_with fail
            go_quiet (fail)
            go_wp2_with fail
            have := HQ.out r (q + nq) HE2.out
            rw [← World.drewN_drewN, HW6.out] at this
            exact this
        · have HE : Hid (aheadB x y (gsOf n pr) = false) := by
            show aheadB x y (gsOf n pr) = false
            refine aheadB_none fun g hg => ?_
            unfold gsOf at hg
            rcases List.mem_append.1 hg with hg | hg
            · exact HN2.out g hg
            · obtain ⟨j, hj, rfl⟩ := List.mem_map.1 hg
              have hj := List.mem_range.1 hj
              rw [litB_minus, litB_minus, HI.out j (by omega)]
          have hi1 : ¬ (i : Int) < (n : Int) := by omega
          subst hwr
          have HE2 := Lib.hid (HQ.out false q HE.out)
          go_wp2_with fail
          exact HE2.out

/-- What the document's Solve finds. -/
def RefPost (w : World) (n : Nat) (ls : List Cl) (pr : List Int) (e : Ending) (w' : World) : Prop :=
  Below w.heap.size w w' ∧ ∃ v ok, e = .returned (.tuple #[v, .bool ok]) ∧ ((ok = true ∧ ∃ x, BoolsV w' v (bsOf n x) ∧ Best n ls pr x) ∨ (ok = false ∧ v = .slice none 0 0 ∧ ∀ x, ¬ sat x ls))
def RSt (w : World) (n : Nat) (ls : List Cl) (pr : List Int) (b : Nat) (f : Bool) (v : Value) (wx : World) : Prop :=
  Below w.heap.size w wx ∧ (f = false → v = .slice none 0 0) ∧ ∃ x, EnumP n ls pr b f x ∧ (f = true → BoolsV wx v (bsOf n x))
set_option maxHeartbeats 4000000 in
theorem refsolve_c {n : Nat} (hn : n ≤ 10) {w : World} {vl vp : Value} {ls : List (List Int)} {pr : List Int} (hl : RowsV w vl ls) (hll : ls.length ≤ 9223372036854775807) (hcl : ∀ c ∈ ls, c.length ≤ 9223372036854775807) (hp : IntsV w vp pr) (hpl : pr.length ≤ 17592186044416) (hok : litsB n ls pr = true) :
    Calls Try.prog 16 #[.int .i64 (n : Int), vl, vp] w (RefPost w n ls pr) := by
  have hok' := litsB_ok.1 hok
  have HVAL := Lib.hid (fun (b : Nat) (h : b < 2 ^ n) (W : World) => values_c hn h W)
  have HALL := Lib.hid (fun (W : World) (hb : Below w.heap.size w W) (u : Value) (v : Asg) (hu : BoolsV W u (bsOf n v)) => all_c hu (by omega) (hl.below hb) hll hcl hok'.1)
  have HAH := Lib.hid (fun (W : World) (hb : Below w.heap.size w W) (ua ub : Value) (x y : Asg) (ha : BoolsV W ua (bsOf n x)) (hb' : BoolsV W ub (bsOf n y)) => ahead_c (by omega) ha hb' (hp.below hb) hpl hok'.2)
  have HOK := Lib.hid hok'
  obtain ⟨Q, hQ⟩ : ∃ Q, RefPost w n ls pr = Q := ⟨_, rfl⟩
  rw [hQ]
  replace hQ := Lib.hid hQ
  have hp2 := two_pow_le hn
  obtain ⟨P, hP⟩ : ∃ P, 2 ^ n = P := ⟨_, rfl⟩
  have hsh : (2 : Int) ^ n = (P : Int) := by rw [← hP]; exact (Int.natCast_pow 2 n).symm
  rw [hP] at hp2 HVAL
  have HP := Lib.hid hP
  clear hl hcl hp hok hok' hP
  go_enter Try.func16, Try.ntmps16
  go_wp2_with fail
  go_loopg [8, 9, 10] P (fun gk v8 v9 v10 wx => ∃ (b : Nat) (f : Bool) (vb : Value), vb = v8 ∧ v9 = .bool f ∧ v10 = .int .i64 (b : Int) ∧ b ≤ P ∧ P ≤ b + gk ∧ Hid (RSt w n ls pr b f vb wx))
  case atStart => exact ⟨0, false, _, rfl, rfl, rfl, by omega, by omega, Below.refl _ _, fun _ => rfl, fun _ => false, EnumP.start _, fun h => by cases h⟩
  case round =>
    obtain ⟨gI, rfl⟩ : ∃ x : Nat, x = gk := ⟨_, rfl⟩
    obtain ⟨b, f, vb, rfl, rfl, rfl, hbP, hbk, HR⟩ := hrel
    obtain ⟨w3, hw3⟩ : ∃ w3, wr = w3 := ⟨_, rfl⟩
    rw [hw3] at HR ⊢
    clear hw3
    by_cases hb : b < P
    · have hb1 : (b : Int) < (P : Int) := by omega
      have HV := Lib.hid (HVAL.out b hb w3)
      go_wp2_with fail
      refine HV.out.mono ?_
      rintro e w4 ⟨g, rfl, hbox, hb4⟩
      have HB4 := Lib.hid hb4
      have HBX := Lib.hid (BoolsV.box hbox)
      have HB04 : Hid (Below w.heap.size w w4) := below_tr HR.out.1 hb4
      have HA4 := Lib.hid (HALL.out w4 HB04.out _ _ (BoolsV.box hbox))
      clear hbox hb4
      cases hz : allB (vB b) ls with
      | false =>
        have HN : Hid (RSt w n ls pr (b + 1) f vb w4) := by
          obtain ⟨h1, h2, x, h3, h4⟩ := HR.out
          refine ⟨HB04.out, h2, x, h3.skip fun hs => ?_, fun hf => (h4 hf).below HB4.out⟩
          rw [allB_sat.2 hs] at hz
          cases hz
        rw [hz] at HA4
        clear hz
        go_wp2_with (go_at_call 24; refine HA4.out.mono ?_; rintro e w5 ⟨rfl, rfl⟩)
        go_roundg (gI - 1)
        case measure => omega
        case rel => exact ⟨b + 1, f, _, rfl, rfl, by go_num, by omega, by omega, HN.out⟩
      | true =>
        have HSAT : Hid (sat (vB b) ls) := allB_sat.1 hz
        rw [hz] at HA4
        clear hz
        cases f with
        | false =>
          have HN : Hid (RSt w n ls pr (b + 1) true (.slice (some ⟨g, 0, none⟩) n n) w4) := by
            obtain ⟨h1, h2, x, h3, h4⟩ := HR.out
            exact ⟨HB04.out, (fun h => by cases h), vB b, h3.first HSAT.out, fun _ => HBX.out⟩
          go_wp2_with (go_at_call 24; refine HA4.out.mono ?_; rintro e w5 ⟨rfl, rfl⟩)
          go_roundg (gI - 1)
          case measure => omega
          case rel => exact ⟨b + 1, true, _, rfl, rfl, by go_num, by omega, by omega, HN.out⟩
        | true =>
          obtain ⟨h1, h2, x, h3, h4⟩ := HR.out
          have HE := Lib.hid h3
          have HBV : Hid (BoolsV w4 vb (bsOf n x)) := (h4 rfl).below HB4.out
          have HAC := Lib.hid (HAH.out w4 HB04.out _ _ _ _ HBX.out HBV.out)
          clear h1 h2 h3 h4
          cases hz : aheadB (vB b) x (gsOf n pr) with
          | true =>
            have HN : Hid (∀ q, RSt w n ls pr (b + 1) true (.slice (some ⟨g, 0, none⟩) n n) (w4.drewN q)) := fun q =>
              ⟨below_dr HB04.out q, (fun h => by cases h), vB b, HE.out.better HOK.out.2 HSAT.out hz, fun _ => HBX.out.below (below_dr (Below.refl _ _) q)⟩
            rw [hz] at HAC
            clear hz
            go_wp2_with (first
              | (go_at_call 24; refine HA4.out.mono ?_; rintro e w5 ⟨rfl, rfl⟩)
              | (go_at_call 37; refine HAC.out.mono ?_; rintro e w5 ⟨rfl, q5, rfl⟩))
            go_roundg (gI - 1)
            case measure => omega
            case rel => exact ⟨b + 1, true, _, rfl, rfl, by go_num, by omega, by omega, HN.out _⟩
          | false =>
            have HN : Hid (∀ q, RSt w n ls pr (b + 1) true vb (w4.drewN q)) := fun q =>
              ⟨below_dr HB04.out q, (fun h => by cases h), x, HE.out.worse hz, fun _ => HBV.out.below (below_dr (Below.refl _ _) q)⟩
            rw [hz] at HAC
            clear hz
            go_wp2_with (first
              | (go_at_call 24; refine HA4.out.mono ?_; rintro e w5 ⟨rfl, rfl⟩)
              | (go_at_call 37; refine HAC.out.mono ?_; rintro e w5 ⟨rfl, q5, rfl⟩))
            go_roundg (gI - 1)
            case measure => omega
            case rel => exact ⟨b + 1, true, _, rfl, rfl, by go_num, by omega, by omega, HN.out _⟩
    · have hb1 : ¬ (b : Int) < (P : Int) := by omega
      have HQ : Hid (Q (.returned (.tuple #[vb, .bool f])) w3) := by
        show Q _ _
        rw [← hQ.out]
        obtain ⟨h1, h2, x, h3, h4⟩ := HR.out
        have e : b = 2 ^ n := by rw [HP.out]; omega
        rw [e] at h3
        refine ⟨h1, vb, f, rfl, ?_⟩
        cases f with
        | true => exact .inl ⟨rfl, x, h4 rfl, h3.best HOK.out.1 HOK.out.2⟩
        | false => exact .inr ⟨rfl, h2 rfl, h3.none HOK.out.1⟩
      go_wp2_with fail
      exact HQ.out
end Go.Proofs.Ytkeagjphddcjeaa
