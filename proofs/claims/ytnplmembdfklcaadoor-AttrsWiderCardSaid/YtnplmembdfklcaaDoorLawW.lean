/-
  The walk of AttrsWider. Helper text; the conditions are those typed.
-/
import Derived.Test.YtnplmembdfklcaaDoorLawB
import Derived.Test.YtnplmembdfklcaaDoorSearchB
import Derived.Test.YtnplmembdfklcaaDoorArgOps
import Derived.DataShut
namespace Go.Proofs.YtnplmembdfklcaaDoor
set_option linter.unusedVariables false
set_option linter.unusedSimpArgs false
open Go.RowKit Go.Maps

theorem hit_wider {st : StT} {key p : ByteArray} {h1 h2 : Int} {q : ByteArray} (hh : ∀ t, fitsB h1 (bs p) t = true → fitsB h2 (bs q) t = true) {id : Int} (h : hitB st h1 key p id = true) : hitB st h2 key q id = true := by
  unfold hitB at h ⊢
  cases hv : st.val id key with
  | none => rw [hv] at h; cases h
  | some v =>
    rw [hv] at h
    have h' : hitV h1 p v = true := h
    show hitV h2 q v = true
    unfold hitV at h' ⊢
    rw [List.any_eq_true] at h' ⊢
    obtain ⟨t, ht, h3⟩ := h'
    exact ⟨t, ht, hh _ h3⟩
theorem wide12 (p t : List UInt8) (h : fitsB 1 p t = true) : fitsB 2 p t = true := exact_begins h
theorem wide23 (p t : List UInt8) (h : fitsB 2 p t = true) : fitsB 3 p t = true := begins_within h
theorem wide34 (p t : List UInt8) (h : fitsB 3 p t = true) : fitsB 4 (bs ⟨#[42]⟩) t = true := G_one_star t
theorem meet_all {xs ys : List Int} (h : Rising xs) (hs : ∀ x, x ∈ xs → x ∈ ys) : refSort (xs.filter (fun x => decide (x ∈ ys))) = xs := by
  refine rising_ext (refSort_rising _) h fun x => ?_
  rw [mem_refSort, List.mem_filter]
  exact ⟨fun h => h.1, fun h => ⟨h, decide_eq_true (hs x h)⟩⟩

theorem set_ok {st : StT} (hok : StOK st) {id : Int} {key : ByteArray} {v : ValT} (hn : (Lit.int .i64 v.num).wf = true) (he : setErr st id key v = 0) : StOK (setSt st id key v) := by
  intro i k u hu
  unfold setSt at hu
  simp only [] at hu
  unfold setErr at he
  split at he
  · cases he
  rename_i h1
  split at he
  · cases he
  split at he
  · cases he
  split at he
  · cases he
  rename_i h4
  unfold longB at h4
  simp only [Bool.or_eq_true, decide_eq_true_eq, List.any_eq_true, not_or, not_exists, not_and] at h4
  split at hu
  · cases hu
    have hw := (Lit.wf_int_iff .i64 v.num).1 hn
    have e1 : IntKind.i64.min = -9223372036854775808 := by decide
    have e2 : IntKind.i64.max = 9223372036854775807 := by decide
    rename_i hik
    obtain ⟨rfl, rfl⟩ := hik
    exact ⟨⟨by omega, by omega, by omega, by omega, fun s hs => by have := h4.2 s hs; omega⟩, by omega, by omega⟩
  · exact hok i k u hu
theorem set_keys {st : StT} {id : Int} {key : ByteArray} {v : ValT} (hk : st.keys.length ≤ 64) (he : setErr st id key v = 0) : (setSt st id key v).keys.length ≤ 64 := by
  unfold setSt
  simp only []
  by_cases h : st.kind key = none
  · rw [if_pos h]
    unfold setErr at he
    rw [h] at he
    split at he
    · cases he
    split at he
    · cases he
    split at he
    · cases he
    split at he
    · cases he
    simp only [] at he
    split at he
    · cases he
    · rw [List.length_append, List.length_singleton]; omega
  · rw [if_neg h]
    exact hk

theorem meet_c {w : World} {A B : Option Addr} {na ca nb cb : Nat} {xs ys : List Int} (ha : CutI w A na ca xs) (hb : CutI w B nb cb ys) (hx : Rising xs) (hs : ∀ x, x ∈ xs → x ∈ ys) (hl : na ≤ 65536) :
    Calls Tryd.prog 17 #[.slice A na ca, .slice B nb cb] w fun e w' => ∃ A' n' c', e = .returned (.slice A' n' c') ∧ CutI w' A' n' c' xs ∧ Below w.heap.size w w' := by
  refine (refMeet_in ha hb (by omega)).mono fun e w' ⟨v, he, hv, hb'⟩ => ?_
  rw [meet_all hx hs] at hv
  obtain ⟨A', n', c', rfl, hc⟩ := hv
  exact ⟨A', n', c', he, hc, hb'⟩

/-- What the loop keeps. -/
structure WInv (w : World) (S K V L : Nat) (vd : Value) (i : Nat) (wr : World) (role : Nat → Role) (vk : Value) (ib : Int → Option Nat) (sl : Int → ByteArray → Value) (n : Nat) (st : StT) : Prop where
  below : Below w.heap.size w wr
  free : ∀ b, b < w.heap.size → role b = .free
  store : StoreIn wr w.heap.size role S K V L vk vd ib sl n st
  small : n ≤ 3 * i
  ok : StOK st
  keys : st.keys.length ≤ 64
theorem WInv.up {w : World} {S K V L : Nat} {vd : Value} {i : Nat} {wr wd : World} {role : Nat → Role} {vk : Value} {ib : Int → Option Nat} {sl : Int → ByteArray → Value} {n : Nat} {st : StT} (h : WInv w S K V L vd i wr role vk ib sl n st) (hb : Below wr.heap.size wr wd) : WInv w S K V L vd i wd role vk ib sl n st :=
  ⟨h.below.trans (below_to hb h.below.size), h.free, h.store.below h.below.size hb, h.small, h.ok, h.keys⟩
theorem WInv.next {w : World} {S K V L : Nat} {vd : Value} {i : Nat} {wr : World} {role : Nat → Role} {vk : Value} {ib : Int → Option Nat} {sl : Int → ByteArray → Value} {n : Nat} {st : StT} (h : WInv w S K V L vd i wr role vk ib sl n st) : WInv w S K V L vd (i + 1) wr role vk ib sl n st :=
  ⟨h.below, h.free, h.store, by have := h.small; omega, h.ok, h.keys⟩
theorem WInv.set {w : World} {S K V L : Nat} {vd : Value} {i : Nat} {wr w' : World} {role : Nat → Role} {vk : Value} {ib : Int → Option Nat} {sl : Int → ByteArray → Value} {n : Nat} {st : StT} (h : WInv w S K V L vd i wr role vk ib sl n st)
    {id : Int} {key : ByteArray} {v : ValT} (hn : (Lit.int .i64 v.num).wf = true) {e : Ending} (hp : SetPost role wr w.heap.size S K V L vd n st id key v e w') : ∃ role' vk' ib' sl' st', WInv w S K V L vd (i + 1) w' role' vk' ib' sl' (n + 3) st' := by
  obtain ⟨_, role', vk', ib', sl', hm, hs⟩ := hp
  obtain ⟨h1, h2⟩ := hm.out h.below h.below.size h.free
  refine ⟨role', vk', ib', sl', _, h1, h2, hs, by have := h.small; omega, ?_, ?_⟩
  · by_cases he : setErr st id key v = 0
    · rw [if_pos he]; exact set_ok h.ok hn he
    · rw [if_neg he]; exact h.ok
  · by_cases he : setErr st id key v = 0
    · rw [if_pos he]; exact set_keys h.keys he
    · rw [if_neg he]; exact h.keys
theorem SetPost.form {role : Nat → Role} {w : World} {B S K V L : Nat} {vd : Value} {n : Nat} {st : StT} {id : Int} {key : ByteArray} {v : ValT} {e : Ending} {w' : World} (h : SetPost role w B S K V L vd n st id key v e w') : ∃ x, e = .returned (.int .i64 x) := ⟨_, h.1⟩

set_option maxHeartbeats 8000000 in
set_option maxRecDepth 100000 in
theorem wider_walk (l : List OpT) (a : Option Addr) (N c : Nat) (key p : ByteArray) (hkey : key.size ≤ maxLen) (hp : p.size ≤ maxLen) (w : World) (hl : OpsV w (· < w.heap.size) l (.slice a N c)) (hM : MaxLenC w) (hP : Pow w) :
    Calls Tryd.prog 7 #[.slice a N c, .string key, .string p] w fun e w' => e = .returned (.bool true) ∧ Below w.heap.size w w' := by
  have H0 : Hid (∀ w', Calls Tryd.prog 8 #[] w' fun e w'' => e = .returned (.bool true) ∧ Below w'.heap.size w' w'') := awake_c
  obtain ⟨a', c', he, hN, hin⟩ := hl
  injection he with e1 e2 e3
  subst e1 e3
  have hln := Lib.hid e2
  rw [← e2] at hN
  clear e2
  replace hin := Lib.hid hin
  replace hM := Lib.hid hM
  replace hP := Lib.hid hP
  go_enter Tryd.func7, Tryd.ntmps7
  go_upto_region 1 with fail
  go_upto_region 2 with (go_at_call 8; refine (H0.out _).mono ?_; rintro e w1 ⟨rfl, hb1⟩)
  have HB1 := Lib.hid hb1
  clear hb1
  have HN : Hid (Calls Tryd.prog 11 #[] w1 fun e w' => (∃ S, e = .returned (.pointer (some ⟨S, 0, none⟩)) ∧ ∃ role K V L vd, StoreIn w' w.heap.size role S K V L (.slice none 0 0) vd (fun _ => none) (fun _ _ => .slice none 0 0) 0 st0 ∧ (∀ b, b < w1.heap.size → role b = .free)) ∧ Below w1.heap.size w1 w') := new_c w.heap.size w1 HB1.out.size
  go_upto_region 5 with (go_at_call 11; refine HN.out.mono ?_; rintro e w2 ⟨⟨S, rfl, HNEW⟩, hb2⟩)
  obtain ⟨role0, K, V, L, vd, hs0, hf0⟩ := HNEW
  have HI0 : Hid (∃ role vk ib sl n st, WInv w S K V L vd 0 w2 role vk ib sl n st) := ⟨role0, _, _, _, _, st0, below_tr HB1.out hb2, fun b hb => hf0 b (Nat.lt_of_lt_of_le hb HB1.out.size), hs0, Nat.le_refl _, fun _ _ _ h => (by cases h), by decide⟩
  clear hb2 hs0 hf0 HN HB1 H0
  go_wp2_with fail
  go_loopw [9] (fun v9 wr => ∃ i : Nat, v9 = .int .i64 i ∧ i ≤ N ∧ Hid (∃ role vk ib sl n st, WInv w S K V L vd i wr role vk ib sl n st)) (fun v9 _ => N - (intOf v9).toNat)
  case atStart => exact ⟨0, rfl, Nat.zero_le _, HI0⟩
  case round =>
    obtain ⟨i, rfl, hi, HX⟩ := hrel
    obtain ⟨role, vk, ib, sl, n, st, hI⟩ := HX.out
    have HI := Lib.hid hI
    clear HX HI0 hI
    by_cases hlt : i < N
    · have hi1 : (i : Int) < (N : Int) := by omega
      have hlen : i < l.length := by have := hln.out; omega
      have hne : l ≠ [] := fun e => by rw [e] at hlen; exact absurd hlen (Nat.not_lt_zero _)
      obtain ⟨b, off, hab, hbS, hcells⟩ := hin.out hne
      subst hab
      obtain ⟨vl, ho, hc⟩ := hcells i hlen
      generalize hoi : l[i] = o at ho hc
      clear hoi
      have hcw : ∀ j u, (opCells o vl)[j]? = some u → wr.cell? ⟨b, off + i * 9 + j, none⟩ = some u := fun j u hj => cell_blk (HI.out.below.block b hbS) (hc j u hj)
      have c0 := hcw 0 _ rfl
      rw [Nat.add_zero] at c0
      clear hcells hc
      by_cases hk : o.kind = 1
      · have c1 := hcw 1 _ rfl
        have c2 := hcw 2 _ rfl
        have c3 := hcw 3 _ rfl
        have c4 := hcw 4 _ rfl
        have c5 := hcw 5 _ rfl
        have c6 := hcw 6 _ rfl
        obtain ⟨la, lc, hvl, _⟩ := id ho.list
        have hos := ho.list
        obtain ⟨ln, hlnv⟩ : ∃ ln, o.v.list.length = ln := ⟨_, rfl⟩
        rw [hlnv] at hvl
        subst hvl
        have HSET : Hid (∀ wd, Below wr.heap.size wr wd → Calls Tryd.prog 14 #[.pointer (some ⟨S, 0, none⟩), .int .i64 o.id, .string o.key, .agg #[.int .i64 o.v.kind, .int .i64 o.v.num, .string o.v.text, .slice la ln lc]] wd fun e w' => (∃ x, e = .returned (.int .i64 x)) ∧ ∃ role vk ib sl n st, WInv w S K V L vd (i + 1) w' role vk ib sl n st) := fun wd hb => by
          have h1 := HI.out.up hb
          refine (set_c h1.store h1.below.size (by have := h1.small; unfold maxLen; omega) h1.keys o.id o.key ho.key o.v la ln lc (· < w.heap.size) (hos.keep (fun _ h => h) fun b hb _ => h1.below.block b hb) (fun b hb => .inl (h1.free b hb))).mono fun e w' h => ⟨h.form, ?_⟩
          obtain ⟨r', vk', ib', sl', st', h2⟩ := h1.set ho.numw h
          exact ⟨_, _, _, _, _, _, h2⟩
        rw [hk] at c0
        have HC : Hid (wr.cell? ⟨b, off + i * 9 + 1, none⟩ = some (.int .i64 o.id) ∧ wr.cell? ⟨b, off + i * 9 + 2, none⟩ = some (.string o.key)) := ⟨c1, c2⟩
        clear ho hos hk hcw hlnv
        go_upto_region 9 with fail
        refine wp_quiet_tail 16 (by kernel_rfl) (by kernel_rfl) ?_
        intro wd hwd
        have HBd : Hid (Below wr.heap.size wr wd) := by
          rw [hwd.out]
          exact below_dr1 (Below.refl _ _)
        have hcd : ∀ p, wd.cell? p = wr.cell? p := fun p => by rw [hwd.out]; rfl
        have d1 := (hcd _).trans c1
        have d2 := (hcd _).trans c2
        have d3 := (hcd _).trans c3
        have d4 := (hcd _).trans c4
        have d5 := (hcd _).trans c5
        have d6 := (hcd _).trans c6
        clear c0 c1 c2 c3 c4 c5 c6 hcd hwd
        simp only [List.take_succ_cons, List.take_zero, List.drop_succ_cons, List.drop_zero]
        repeat (go_big_quiet_step (fail))
        refine wpQuiet_nil ?_
        clear d1 d2 d3 d4 d5 d6
        go_wp2_with (go_at_call 14; refine (HSET.out _ HBd.out).mono ?_; rintro e w3 ⟨⟨x3, rfl⟩, hw3⟩)
        replace hw3 := Lib.hid hw3
        go_roundw
        case rel => exact ⟨i + 1, by go_num, by omega, hw3⟩
        case measure => simp [intOf]; omega
      · have hk' : (o.kind == 1) = false := by simpa using hk
        have HNX := Lib.hid HI.out.next
        clear hcw
        go_wp2_with fail
        go_roundw
        case rel => exact ⟨i + 1, by go_num, by omega, _, _, _, _, _, _, HNX.out⟩
        case measure => simp [intOf]; omega
    · have hi1 : ¬ (i : Int) < (N : Int) := by omega
      clear hi hin hln
      replace hM := Lib.hid (hM.out.below HI.out.below)
      replace hP := Lib.hid (pow_below hP.out HI.out.below)
      have HSE : Hid (∀ how q W, q.size ≤ maxLen → Below wr.heap.size wr W → Calls Tryd.prog 15 #[.pointer (some ⟨S, 0, none⟩), .string key, .int .i64 how, .string q] W (SearchPost st how key q W)) := fun how q W hq hb =>
        search_c (HI.out.up hb).store (HI.out.up hb).below.size HI.out.ok (pow_below hP.out hb) (hM.out.below hb) how hkey hq
      cases hkd : st.kind key with
      | none =>
        have HSN : Hid (∀ how q W, 1 ≤ how → how ≤ 4 → q.size ≤ maxLen → Below wr.heap.size wr W → Calls Tryd.prog 15 #[.pointer (some ⟨S, 0, none⟩), .string key, .int .i64 how, .string q] W fun e w' => e = .returned (.tuple #[.slice none 0 0, .int .i64 84]) ∧ Below wr.heap.size wr w') := fun how q W h1 h4 hq hb =>
          (HSE.out how q W hq hb).mono fun e w' h => by
            unfold SearchPost at h
            rw [if_neg (by omega), if_pos hkd] at h
            exact ⟨h.1, hb.trans (below_to h.2 hb.size)⟩
        clear HSE hkd
        have hpr := Lib.hid hp
        clear hp
        go_upto_region 11 with (go_at_call 15; refine (HSN.out 1 p _ (by decide) (by decide) hpr.out (Below.refl _ _)).mono ?_; rintro e w3 ⟨rfl, hb3⟩)
        go_upto_region 12 with (go_at_call 15; refine (HSN.out 2 p _ (by decide) (by decide) hpr.out hb3).mono ?_; rintro e w4 ⟨rfl, hb4⟩)
        go_upto_region 13 with (go_at_call 15; refine (HSN.out 3 p _ (by decide) (by decide) hpr.out hb4).mono ?_; rintro e w5 ⟨rfl, hb5⟩)
        go_wp2_with (go_at_call 15; refine (HSN.out 4 ⟨#[42]⟩ _ (by decide) (by decide) (by decide) hb5).mono ?_; rintro e w6 ⟨rfl, hb6⟩)
        go_ret
        exact ⟨rfl, HI.out.below.trans (below_to hb6 HI.out.below.size)⟩
      | some kd =>
        have HSS : Hid (∀ how q W, 1 ≤ how → how ≤ 4 → q.size ≤ maxLen → Below wr.heap.size wr W → Calls Tryd.prog 15 #[.pointer (some ⟨S, 0, none⟩), .string key, .int .i64 how, .string q] W fun e w' =>
            (∃ xs a n c, e = .returned (.tuple #[.slice a n c, .int .i64 0]) ∧ Rising xs ∧ (∀ id, id ∈ xs ↔ hitB st how key q id = true) ∧ n ≤ 65536 ∧ CutI w' a n c xs) ∧ Below wr.heap.size wr w' ∧ Below W.heap.size W w') := fun how q W h1 h4 hq hb =>
          (HSE.out how q W hq hb).mono fun e w' h => by
            unfold SearchPost at h
            rw [if_neg (by omega), if_neg (by rw [hkd]; simp)] at h
            obtain ⟨⟨xs, a, c, e1, e2, e3, e4, e5⟩, e6⟩ := h
            exact ⟨⟨xs, a, _, c, e1, e2, e3, e4, e5⟩, hb.trans (below_to e6 hb.size), e6⟩
        clear HSE hkd
        have hpr := Lib.hid hp
        clear hp
        go_upto_region 11 with (go_at_call 15; refine (HSS.out 1 p _ (by decide) (by decide) hpr.out (Below.refl _ _)).mono ?_; rintro e w3 ⟨⟨xs1, A1, n1, c1, rfl, hr1, hm1, hn1, hc1⟩, hb3, hd3⟩)
        replace hc1 := Lib.hid hc1
        replace hm1 := Lib.hid hm1
        go_upto_region 12 with (go_at_call 15; refine (HSS.out 2 p _ (by decide) (by decide) hpr.out hb3).mono ?_; rintro e w4 ⟨⟨xs2, A2, n2, c2, rfl, hr2, hm2, hn2, hc2⟩, hb4, hd4⟩)
        replace hc1 := Lib.hid (hc1.out.below hd4)
        replace hc2 := Lib.hid hc2
        replace hm2 := Lib.hid hm2
        go_upto_region 13 with (go_at_call 15; refine (HSS.out 3 p _ (by decide) (by decide) hpr.out hb4).mono ?_; rintro e w5 ⟨⟨xs3, A3, n3, c3, rfl, hr3, hm3, hn3, hc3⟩, hb5, hd5⟩)
        replace hc1 := Lib.hid (hc1.out.below hd5)
        replace hc2 := Lib.hid (hc2.out.below hd5)
        replace hc3 := Lib.hid hc3
        replace hm3 := Lib.hid hm3
        go_upto_region 14 with (go_at_call 15; refine (HSS.out 4 ⟨#[42]⟩ _ (by decide) (by decide) (by decide) hb5).mono ?_; rintro e w6 ⟨⟨xs4, A4, n4, c4, rfl, hr4, hm4, hn4, hc4⟩, hb6, hd6⟩)
        replace hc1 := Lib.hid (hc1.out.below hd6)
        replace hc2 := Lib.hid (hc2.out.below hd6)
        replace hc3 := Lib.hid (hc3.out.below hd6)
        replace hc4 := Lib.hid hc4
        have HM1 : Hid (∀ W, Below w6.heap.size w6 W → Calls Tryd.prog 17 #[.slice A1 n1 c1, .slice A2 n2 c2] W fun e w' => ∃ A' n' c', e = .returned (.slice A' n' c') ∧ CutI w' A' n' c' xs1 ∧ Below w6.heap.size w6 w') := fun W hb =>
          (meet_c (hc1.out.below hb) (hc2.out.below hb) hr1 (fun x hx => (hm2.out x).2 (hit_wider (wide12 _) ((hm1.out x).1 hx))) hn1).mono fun e w' ⟨A', n', c', h1, h2, h3⟩ => ⟨A', n', c', h1, h2, hb.trans (below_to h3 hb.size)⟩
        have HM2 : Hid (∀ W, Below w6.heap.size w6 W → Calls Tryd.prog 17 #[.slice A2 n2 c2, .slice A3 n3 c3] W fun e w' => ∃ A' n' c', e = .returned (.slice A' n' c') ∧ CutI w' A' n' c' xs2 ∧ Below w6.heap.size w6 w') := fun W hb =>
          (meet_c (hc2.out.below hb) (hc3.out.below hb) hr2 (fun x hx => (hm3.out x).2 (hit_wider (wide23 _) ((hm2.out x).1 hx))) hn2).mono fun e w' ⟨A', n', c', h1, h2, h3⟩ => ⟨A', n', c', h1, h2, hb.trans (below_to h3 hb.size)⟩
        have HM3 : Hid (∀ W, Below w6.heap.size w6 W → Calls Tryd.prog 17 #[.slice A3 n3 c3, .slice A4 n4 c4] W fun e w' => ∃ A' n' c', e = .returned (.slice A' n' c') ∧ CutI w' A' n' c' xs3 ∧ Below w6.heap.size w6 w') := fun W hb =>
          (meet_c (hc3.out.below hb) (hc4.out.below hb) hr3 (fun x hx => (hm4 x).2 (hit_wider (wide34 _) ((hm3.out x).1 hx))) hn3).mono fun e w' ⟨A', n', c', h1, h2, h3⟩ => ⟨A', n', c', h1, h2, hb.trans (below_to h3 hb.size)⟩
        have HQ1 : Hid (∀ W A n c, Below w6.heap.size w6 W → CutI W A n c xs1 → Calls Tryd.prog 16 #[.slice A n c, .slice A1 n1 c1] W fun e w' => e = .returned (.bool true) ∧ Below w6.heap.size w6 w') := fun W A n c hb hx =>
          (same_eq hx (hc1.out.below hb) rfl).mono fun e w' ⟨h1, h2⟩ => ⟨h1, hb.trans (below_to h2 hb.size)⟩
        have HQ2 : Hid (∀ W A n c, Below w6.heap.size w6 W → CutI W A n c xs2 → Calls Tryd.prog 16 #[.slice A n c, .slice A2 n2 c2] W fun e w' => e = .returned (.bool true) ∧ Below w6.heap.size w6 w') := fun W A n c hb hx =>
          (same_eq hx (hc2.out.below hb) rfl).mono fun e w' ⟨h1, h2⟩ => ⟨h1, hb.trans (below_to h2 hb.size)⟩
        have HQ3 : Hid (∀ W A n c, Below w6.heap.size w6 W → CutI W A n c xs3 → Calls Tryd.prog 16 #[.slice A n c, .slice A3 n3 c3] W fun e w' => e = .returned (.bool true) ∧ Below w6.heap.size w6 w') := fun W A n c hb hx =>
          (same_eq hx (hc3.out.below hb) rfl).mono fun e w' ⟨h1, h2⟩ => ⟨h1, hb.trans (below_to h2 hb.size)⟩
        have HFIN : Hid (Below w.heap.size w w6) := HI.out.below.trans (below_to hb6 HI.out.below.size)
        clear hc1 hc2 hc3 hc4 hm1 hm2 hm3 hm4 hb3 hb4 hb5 hb6 hd3 hd4 hd5 hd6 hr1 hr2 hr3 hr4 hn1 hn2 hn3 hn4 HSS HI hM hP
        go_upto_region 17 with (first | (go_at_call 17; refine (HM1.out _ (Below.refl _ _)).mono ?_; rintro e w7 ⟨A7, n7, c7, rfl, hc7, hb7⟩) | (go_at_call 16; refine (HQ1.out _ _ _ _ hb7 hc7).mono ?_; rintro e w8 ⟨rfl, hb8⟩))
        go_upto_region 18 with (first | (go_at_call 17; refine (HM2.out _ hb8).mono ?_; rintro e w9 ⟨A9, n9, c9, rfl, hc9, hb9⟩) | (go_at_call 16; refine (HQ2.out _ _ _ _ hb9 hc9).mono ?_; rintro e w10 ⟨rfl, hb10⟩))
        go_wp2_with (first | (go_at_call 17; refine (HM3.out _ hb10).mono ?_; rintro e w11 ⟨A11, n11, c11, rfl, hc11, hb11⟩) | (go_at_call 16; refine (HQ3.out _ _ _ _ hb11 hc11).mono ?_; rintro e w12 ⟨rfl, hb12⟩))
        go_ret
        exact ⟨rfl, HFIN.out.trans (below_to hb12 HFIN.out.size)⟩
end Go.Proofs.YtnplmembdfklcaaDoor
