/-
  The document's Search: the walk. Helper text; the conditions are those typed.
-/
import Derived.Test.YtnplmembdfklcaaGreatDoorRefL
import Derived.Test.YtnplmembdfklcaaGreatDoorSearchB
namespace Go.Proofs.YtnplmembdfklcaaGreatDoor
set_option linter.unusedVariables false
set_option linter.unusedSimpArgs false
open Go.RowKit Go.Maps

set_option maxHeartbeats 2000000 in
set_option maxRecDepth 100000 in
/-- Fits of a short text, of whatever pattern. -/
theorem rfitsW_c (how : Int) (p s : ByteArray) (hp : p.size ≤ maxLen) (hs : s.size ≤ 200) (w : World) :
    Calls Tryz.prog 51 #[.int .i64 how, .string p, .string s] w fun e w' => e = .returned (.bool (fitsB how (bs p) (bs s))) ∧ Below w.heap.size w w' := by
  obtain ⟨R, hR⟩ : ∃ R, fitsB how (bs p) (bs s) = R := ⟨_, rfl⟩
  rw [hR]
  unfold fitsB at hR
  by_cases h1 : how = 1
  · rw [if_pos h1] at hR
    subst h1
    have hq : (p.toList == s.toList) = R := by rw [bsEq]; exact hR
    replace hR := Lib.hid hR
    go_enter Tryz.func51, Tryz.ntmps51
    go_wp2_with fail
    go_ret
    exact ⟨rfl, Below.refl _ _⟩
  rw [if_neg h1] at hR
  have b1 : (how == 1) = false := by simpa using h1
  by_cases h2 : how = 2
  · rw [if_pos h2] at hR
    subst h2
    have hq : (decide (p.size ≤ s.size) && ((s.extract 0 p.size).toList == p.toList)) = R := by
      rw [Lib.hasPrefix_raw]
      exact hR
    replace hR := Lib.hid hR
    clear h1 b1
    by_cases hle : p.size ≤ s.size
    · have hle1 : (p.size : Int) ≤ (s.size : Int) := by omega
      rw [decide_eq_true hle, Bool.true_and] at hq
      go_enter Tryz.func51, Tryz.ntmps51
      go_wp2_with fail
      go_ret
      exact ⟨rfl, Below.refl _ _⟩
    · have hle1 : ¬ (p.size : Int) ≤ (s.size : Int) := by omega
      rw [decide_eq_false hle, Bool.false_and] at hq
      subst hq
      go_enter Tryz.func51, Tryz.ntmps51
      go_wp2_with fail
      go_ret
      exact ⟨rfl, Below.refl _ _⟩
  rw [if_neg h2] at hR
  have b2 : (how == 2) = false := by simpa using h2
  by_cases h3 : how = 3
  · rw [if_pos h3] at hR
    subst h3
    clear h1 b1 h2 b2
    replace hR := Lib.hid hR
    replace hp : p.size ≤ 9223372036854775807 := Nat.le_trans hp (by decide)
    by_cases hbig : s.size < p.size
    · have hle1 : ¬ (p.size : Int) ≤ (s.size : Int) := by omega
      have HF : Hid (R = false) := by
        rw [← hR.out]
        exact no_occ (Lib.NoOcc.zero _ _) (by omega)
      go_enter Tryz.func51, Tryz.ntmps51
      go_wp2_with fail
      refine wp_loop_rounds 1 ?_
      rw [rounds_succ]
      go_wp2_with fail
      go_ret
      exact ⟨by rw [HF.out]; rfl, Below.refl _ _⟩
    go_enter Tryz.func51, Tryz.ntmps51
    go_wp2_with fail
    go_loop [7] (fun vi => ∃ i : Nat, vi = .int .i64 i ∧ i ≤ s.size + 1 ∧ Hid (Lib.NoOcc (bs s) (bs p) i)) (fun vi => s.size + 1 - (intOf vi).toNat)
    case atStart => exact ⟨0, rfl, Nat.zero_le _, Lib.NoOcc.zero _ _⟩
    case round =>
      obtain ⟨i, rfl, hin, HN⟩ := hrel
      by_cases hle : i + p.size ≤ s.size
      · have hle1 : (i : Int) + (p.size : Int) ≤ (s.size : Int) := by omega
        have hi0 : (0 : Int) ≤ (i : Int) := by omega
        have hi1 : (i : Int) ≤ (i : Int) + (p.size : Int) := by omega
        have hi2 : ((i : Int) + (p.size : Int)).toNat = i + p.size := by omega
        obtain ⟨b, hb⟩ : ∃ b, ((s.extract i (i + p.size)).toList == p.toList) = b := ⟨_, rfl⟩
        have HO := Lib.hid (occ_at hle hb)
        cases b with
        | true =>
          have hF : R = true := by
            rw [← hR.out]
            unfold Lib.contains
            rw [Lib.index_hit HN.out (by rw [bs_len]; omega) HO.out]
            exact decide_eq_true (by omega)
          have HF := Lib.hid hF
          clear hF
          go_wp2_with fail
          go_ret
          exact ⟨by rw [HF.out]; rfl, Below.refl _ _⟩
        | false =>
          have HN2 : Hid (Lib.NoOcc (bs s) (bs p) (i + 1)) := fun j hj => by
            rcases Nat.lt_succ_iff_lt_or_eq.1 hj with h | h
            · exact HN.out j h
            · subst h; exact HO.out
          go_wp2_with fail
          go_round
          case rel => exact ⟨i + 1, by go_num, by omega, HN2⟩
          case measure => simp [intOf]; omega
      · have hle1 : ¬ (i : Int) + (p.size : Int) ≤ (s.size : Int) := by omega
        have HF : Hid (R = false) := by
          rw [← hR.out]
          exact no_occ HN.out hle
        go_wp2_with fail
        go_ret
        exact ⟨by rw [HF.out]; rfl, Below.refl _ _⟩
  rw [if_neg h3] at hR
  have b3 : (how == 3) = false := by simpa using h3
  by_cases h4 : how = 4
  · rw [if_pos h4] at hR
    subst h4
    have HC := rglob_c p s hp (by omega) w
    rw [hR] at HC
    replace HC := Lib.hid HC
    replace hR := Lib.hid hR
    clear h1 b1 h2 b2 h3 b3
    go_enter Tryz.func51, Tryz.ntmps51
    go_wp2_with fail
    refine HC.out.mono ?_
    rintro e w' ⟨rfl, hb⟩
    replace hb := Lib.hid hb
    go_wp2_with fail
    go_ret
    exact ⟨rfl, hb.out⟩
  rw [if_neg h4] at hR
  subst hR
  have b4 : (how == 4) = false := by simpa using h4
  clear h1 h2 h3 h4
  go_enter Tryz.func51, Tryz.ntmps51
  go_wp2_with fail
  go_ret
  exact ⟨rfl, Below.refl _ _⟩

theorem put1_idem : ∀ (l : List Int) (n : Int), put1 (put1 l n) n = put1 l n
  | [], n => by simp [put1]
  | x :: l, n => by
    by_cases h1 : x < n
    · have e : put1 (x :: l) n = x :: put1 l n := by rw [put1, if_pos h1]
      rw [e, put1, if_pos h1, put1_idem]
    · by_cases h2 : x = n
      · have e : put1 (x :: l) n = x :: l := by rw [put1, if_neg h1, if_pos h2]
        rw [e, e]
      · have e : put1 (x :: l) n = n :: x :: l := by rw [put1, if_neg h1, if_neg h2]
        rw [e, put1, if_neg (by omega), if_pos rfl]

/-- The packages whose value fits, in their order. -/
def rsearch (l : List KeptT) (how : Int) (key text : ByteArray) : List Int := l.foldl (fun o p => if p.key = key ∧ hitV how text p.v = true then put1 o p.id else o) []
theorem rsearch_step (l : List KeptT) (how : Int) (key text : ByteArray) {i : Nat} (hi : i < l.length) : rsearch (l.take (i + 1)) how key text = if l[i].key = key ∧ hitV how text l[i].v = true then put1 (rsearch (l.take i) how key text) l[i].id else rsearch (l.take i) how key text := by
  unfold rsearch
  rw [List.take_succ_eq_append_getElem hi, List.foldl_append]
  rfl
theorem rsearch_len (l : List KeptT) (how : Int) (key text : ByteArray) : ∀ i, (rsearch (l.take i) how key text).length ≤ i
  | 0 => by simp [rsearch]
  | i + 1 => by
    have ih := rsearch_len l how key text i
    by_cases hi : i < l.length
    · rw [rsearch_step l how key text hi]
      split
      · have := put1_length (rsearch (l.take i) how key text) l[i].id
        omega
      · omega
    · have e : l.take (i + 1) = l.take i := by rw [List.take_of_length_le (by omega), List.take_of_length_le (by omega)]
      rw [e]
      omega
theorem textsL_len {v : ValT} (h : ValOK v) : (textsL v).length ≤ 200 := by
  unfold textsL
  split
  · simp
  · split
    · simp
    · exact h.len
/-- What the document's Search answers. -/
def RSearchPost (rt : RefT) (how : Int) (key p : ByteArray) (w : World) (e : Ending) (w' : World) : Prop :=
  (if how < 1 ∨ 4 < how then e = .returned (.tuple #[.slice none 0 0, .int .i64 1])
    else if keyIdx rt.keys key = none then e = .returned (.tuple #[.slice none 0 0, .int .i64 84])
    else ∃ v, e = .returned (.tuple #[v, .int .i64 0]) ∧ SliceI w' v (rsearch rt.l how key p)) ∧ Below w.heap.size w w'
theorem txts_strs {w : World} {S : Nat → Prop} {l : List ByteArray} {a : Option Addr} {n c : Nat} (h : StrsV w S l (.slice a n c)) : TxtsAt w a l ∧ l.length = n := ⟨txts_of_strs h, h.len⟩

section
variable {w : World} {B : Nat} {role : Nat → Role} {M : Nat} {vL vK vN vD : Value} {rt : RefT}
set_option maxHeartbeats 8000000 in
set_option maxRecDepth 100000 in
theorem rsearch_c (h : RefIn w B role M vL vK vN vD rt) (hB : B ≤ w.heap.size) (hsz : rt.l.length ≤ 4194304) (hok : ∀ p ∈ rt.l, ValOK p.v) (hP : Pow w) (how : Int) (key text : ByteArray) (ht : text.size ≤ maxLen) :
    Calls Tryz.prog 25 #[.pointer (some ⟨M, 0, none⟩), .string key, .int .i64 how, .string text] w (RSearchPost rt how key text w) := by
  have HBR := Lib.hid (Below.refl w.heap.size w)
  have HE : Hid (∀ e w', (if how < 1 ∨ 4 < how then e = .returned (.tuple #[.slice none 0 0, .int .i64 1])
    else if keyIdx rt.keys key = none then e = .returned (.tuple #[.slice none 0 0, .int .i64 84])
    else ∃ v, e = .returned (.tuple #[v, .int .i64 0]) ∧ SliceI w' v (rsearch rt.l how key text)) → Below w.heap.size w w' → RSearchPost rt how key text w e w') := fun e w' h1 h2 => ⟨h1, h2⟩
  generalize RSearchPost rt how key text w = Q at HE ⊢
  by_cases hlo : how < 1
  · have HE1 : Hid (Q (.returned (.tuple #[.slice none 0 0, .int .i64 1])) w) := HE.out _ _ (by rw [if_pos (.inl hlo)]) HBR.out
    clear h HE
    go_enter Tryz.func25, Tryz.ntmps25
    go_wp2_with fail
    exact HE1.out
  by_cases hhi : 4 < how
  · have HE1 : Hid (Q (.returned (.tuple #[.slice none 0 0, .int .i64 1])) w) := HE.out _ _ (by rw [if_pos (.inr hhi)]) HBR.out
    clear h HE
    go_enter Tryz.func25, Tryz.ntmps25
    go_wp2_with fail
    exact HE1.out
  have HAT := Lib.hid (at_c h key)
  cases hk : keyIdx rt.keys key with
  | none =>
    have HE1 : Hid (Q (.returned (.tuple #[.slice none 0 0, .int .i64 84])) w) := HE.out _ _ (by rw [if_neg (by omega), if_pos hk]) HBR.out
    rw [hk] at HAT
    simp only [idxOr] at HAT
    have hneg : ((-1 : Int) < 0) := by decide
    clear h HE hk
    go_enter Tryz.func25, Tryz.ntmps25
    go_wp2_with (go_at_call 48; refine HAT.out.mono ?_; rintro e w2 ⟨rfl, h2⟩; obtain rfl : w = w2 := h2.symm)
    exact HE1.out
  | some k0 =>
  have HE1 : Hid (∀ v w', SliceI w' v (rsearch rt.l how key text) → Below w.heap.size w w' → Q (.returned (.tuple #[v, .int .i64 0])) w') := fun v w' h1 h2 => HE.out _ _ (by rw [if_neg (by omega), if_neg (by rw [hk]; simp)]; exact ⟨v, rfl, h1⟩) h2
  rw [hk] at HAT
  simp only [idxOr] at HAT
  have hneg : ¬ ((k0 : Int) < 0) := by omega
  obtain ⟨va, vc, hvL⟩ := ownsRow_slice h.l
  have HH := Lib.hid h
  have HB := Lib.hid hB
  have HOK := Lib.hid hok
  have HP := Lib.hid hP
  have HT := Lib.hid ht
  obtain ⟨N, hN⟩ : ∃ N, rt.l.length = N := ⟨_, rfl⟩
  rw [hN] at hsz hvL
  have HN := Lib.hid hN
  have HvL := Lib.hid hvL
  clear h hB hok hP ht hN hvL HE hk
  go_enter Tryz.func25, Tryz.ntmps25
  go_wp2_with (go_at_call 48; refine HAT.out.mono ?_; rintro e w2 ⟨rfl, h2⟩; obtain rfl : w = w2 := h2.symm)
  go_loopw [10, 11, 12, 13, 14, 15] (fun v10 v11 v12 v13 v14 v15 wr => ∃ i a n c, v11 = .int .i64 (i : Nat) ∧ v10 = .slice a n c ∧ i ≤ N ∧ Hid (CutI wr a n c (rsearch (rt.l.take i) how key text)) ∧ Hid (Below w.heap.size w wr)) (fun _ v11 _ _ _ _ _ => N - (intOf v11).toNat)
  case atStart => exact ⟨0, none, 0, 0, rfl, rfl, Nat.zero_le _, ⟨by simp [rsearch], .inl (by simp [rsearch]), Nat.le_refl _, by decide⟩, HBR⟩
  case round =>
    obtain ⟨i, a, n, c, rfl, rfl, hi, HC, HBL⟩ := hrel
    have HR := Lib.hid (HH.out.below HB.out HBL.out)
    have c2 := HR.out.box.cell (j := 0) rfl
    rw [HvL.out] at c2
    by_cases hlt : i < N
    · have hi1 : (i : Int) < (N : Int) := by omega
      have hil : i < rt.l.length := by have := HN.out; show i < rt.l.length; omega
      obtain ⟨g, cap, hg, hcells⟩ := HR.out.kept hil
      rw [HvL.out] at hg
      injection hg with hg1 hg2 hg3
      clear hg2
      subst hg1 hg3
      have HST := Lib.hid (rsearch_step rt.l how key text hil)
      have hnl := HC.out.len (rsearch_len rt.l how key text i)
      obtain ⟨p, hp⟩ : ∃ p, rt.l[i] = p := ⟨_, rfl⟩
      rw [hp] at hcells HST
      have HPV : Hid (ValOK p.v ∧ ∃ sa sc, p.sl = .slice sa p.v.list.length sc) := by
        refine ⟨HOK.out p (hp ▸ List.getElem_mem hil), ?_⟩
        obtain ⟨sa, sc, hsl, _⟩ := HR.out.cont p (hp ▸ List.getElem_mem hil)
        exact ⟨sa, sc, hsl⟩
      have HSV := Lib.hid (HR.out.cont p (hp ▸ List.getElem_mem hil))
      clear hp
      have k1 : wr.cell? ⟨g, i * 6 + 1, none⟩ = some (.string p.key) := hcells 1 (by omega)
      by_cases he : p.key = key
      · have hq : (p.key.toList == key.toList) = true := by rw [beqS]; exact decide_eq_true he
        have k2 := hcells 2 (by omega)
        have k3 := hcells 3 (by omega)
        have k4 := hcells 4 (by omega)
        have k5 := hcells 5 (by omega)
        have HK0 : Hid (∀ W, Below wr.heap.size wr W → W.cell? ⟨M, 0, none⟩ = some (.slice (some ⟨g, 0, none⟩) N vc) ∧ W.cell? ⟨g, i * 6, none⟩ = some (.int .i64 p.id)) := fun W hb => ⟨cell_tr hb c2, cell_tr hb (hcells 0 (by omega))⟩
        simp only [keptCells, List.getElem?_cons_succ, List.getElem?_cons_zero] at k2 k3 k4 k5
        obtain ⟨sa, sc, hsl⟩ := HPV.out.2
        obtain ⟨ln, hln⟩ : ∃ ln, p.v.list.length = ln := ⟨_, rfl⟩
        rw [hln] at hsl
        rw [hsl] at k5 HSV
        clear hcells hsl
        have HKE := Lib.hid he
        have HVOK : Hid (ValOK p.v) := HPV.out.1
        clear he
        obtain ⟨W1, hW1⟩ : ∃ W1, wr.alloc (.cells #[.int .i64 p.v.kind, .int .i64 p.v.num, .string p.v.text, .slice sa ln sc] 31) = W1 := ⟨_, rfl⟩
        have HX1 : Hid (Below wr.heap.size wr W1 ∧ BoxN W1 wr.heap.size [.int .i64 p.v.kind, .int .i64 p.v.num, .string p.v.text, .slice sa ln sc] 31) := by
          rw [← hW1]
          exact ⟨below1 _ _, boxN_alloc _ _ _⟩
        have x0 := HX1.out.2.cell (j := 0) rfl
        have x1 := HX1.out.2.cell (j := 1) rfl
        have x2 := HX1.out.2.cell (j := 2) rfl
        have x3 := HX1.out.2.cell (j := 3) rfl
        have HTL : Hid (textsL p.v = if p.v.kind = 1 then [itoaB p.v.num] else if p.v.kind = 2 then [p.v.text] else p.v.list) := rfl
        have HIT := Lib.hid (itoa_c p.v.num HVOK.out.num0 HVOK.out.num1 W1 (pow_below HP.out (below_tr HBL.out HX1.out.1)))
        have H : ((p.v.kind == 1) = true ∧ (p.v.kind == 2) = false ∧ Hid (textsL p.v = [itoaB p.v.num])) ∨ ((p.v.kind == 1) = false ∧ (p.v.kind == 2) = true ∧ Hid (textsL p.v = [p.v.text])) ∨ ((p.v.kind == 1) = false ∧ (p.v.kind == 2) = false ∧ Hid (textsL p.v = p.v.list)) := by
          by_cases hk1 : p.v.kind = 1
          · left; exact ⟨by simpa using hk1, by rw [hk1]; decide, by rw [Hid, HTL.out, if_pos hk1]⟩
          · right
            by_cases hk2 : p.v.kind = 2
            · left; exact ⟨by simpa using hk1, by simpa using hk2, by rw [Hid, HTL.out, if_neg hk1, if_pos hk2]⟩
            · right; exact ⟨by simpa using hk1, by simpa using hk2, by rw [Hid, HTL.out, if_neg hk1, if_neg hk2]⟩
        clear HTL
        rcases H with ⟨b1, b2, HTL⟩ | ⟨b1, b2, HTL⟩ | ⟨b1, b2, HTL⟩
        go_upto_region 14 with (go_at_call 50; refine HIT.out.mono ?_; rintro e w2 ⟨rfl, hb2⟩)
        obtain ⟨w3, hw3⟩ : ∃ w3, w2.alloc (.cells #[.string (itoaB p.v.num)] 9) = w3 := ⟨_, rfl⟩
        have hb3 : Below w2.heap.size w2 w3 := by rw [← hw3]; exact below1 _ _
        rw [hw3]
        have HT3 : Hid (Below wr.heap.size wr w3 ∧ TxtsAt w3 (some ⟨w2.heap.size, 0, none⟩) (textsL p.v) ∧ 1 = (textsL p.v).length) := by
          rw [HTL.out, ← hw3]
          exact ⟨below_tr HX1.out.1 (below_tr hb2 (below1 _ _)), txts_new w2 [itoaB p.v.num] 9, rfl⟩
        have x0 := cell_tr (below_tr hb2 hb3) x0
        obtain ⟨v13, hv13⟩ : ∃ v13 : Value, .slice (some ⟨w2.heap.size, 0, none⟩) 1 1 = v13 := ⟨_, rfl⟩
        have HV13 : Hid (∃ a3 n3 c3, v13 = .slice a3 n3 c3 ∧ Hid (Below wr.heap.size wr w3 ∧ TxtsAt w3 a3 (textsL p.v) ∧ n3 = (textsL p.v).length)) := ⟨_, _, _, hv13.symm, HT3⟩
        rw [hv13]
        clear hw3 hb2 hb3 HTL HIT k1 k2 k3 k4 k5 HT3 hv13
        go_upto_region 16 with fail
        obtain ⟨a3, n3, c3, rfl, HT3⟩ := HV13.out
        clear HV13
        rotate_left
        go_upto_region 15 with fail
        obtain ⟨w3, hw3⟩ : ∃ w3, W1.alloc (.cells #[.string p.v.text] 9) = w3 := ⟨_, rfl⟩
        have hb3 : Below W1.heap.size W1 w3 := by rw [← hw3]; exact below1 _ _
        go_upto_region 16 with fail
        rw [hw3]
        have HT3 : Hid (Below wr.heap.size wr w3 ∧ TxtsAt w3 (some ⟨W1.heap.size, 0, none⟩) (textsL p.v) ∧ 1 = (textsL p.v).length) := by
          rw [HTL.out, ← hw3]
          exact ⟨below_tr HX1.out.1 (below1 _ _), txts_new W1 [p.v.text] 9, rfl⟩
        obtain ⟨v13, hv13⟩ : ∃ v13 : Value, .slice (some ⟨W1.heap.size, 0, none⟩) 1 1 = v13 := ⟨_, rfl⟩
        have HV13 : Hid (∃ a3 n3 c3, v13 = .slice a3 n3 c3 ∧ Hid (Below wr.heap.size wr w3 ∧ TxtsAt w3 a3 (textsL p.v) ∧ n3 = (textsL p.v).length)) := ⟨_, _, _, hv13.symm, HT3⟩
        rw [hv13]
        clear hw3 hb3 HTL HIT k1 k2 k3 k4 k5 HT3 hv13
        obtain ⟨a3, n3, c3, rfl, HT3⟩ := HV13.out
        clear HV13
        rotate_left
        go_upto_region 16 with fail
        obtain ⟨w3, hw3⟩ : ∃ w3, W1 = w3 := ⟨_, rfl⟩
        have HT3 : Hid (Below wr.heap.size wr w3 ∧ TxtsAt w3 sa (textsL p.v) ∧ ln = (textsL p.v).length) := by
          rw [HTL.out, ← hw3]
          exact ⟨HX1.out.1, txts_of_strs (HSV.out.below HX1.out.1), hln.symm⟩
        obtain ⟨v13, hv13⟩ : ∃ v13 : Value, .slice sa ln sc = v13 := ⟨_, rfl⟩
        have HV13 : Hid (∃ a3 n3 c3, v13 = .slice a3 n3 c3 ∧ Hid (Below wr.heap.size wr w3 ∧ TxtsAt w3 a3 (textsL p.v) ∧ n3 = (textsL p.v).length)) := ⟨_, _, _, hv13.symm, HT3⟩
        rw [hv13, hw3]
        clear hw3 HTL HIT k1 k2 k3 k4 k5 HT3 hv13
        obtain ⟨a3, n3, c3, rfl, HT3⟩ := HV13.out
        clear HV13
        rotate_left
        all_goals
          clear x1 x2 x3 HX1 HSV HPV
          have HHIT : Hid (rsearch (rt.l.take (i + 1)) how key text = if (textsL p.v).any (fun t => fitsB how (bs text) (bs t)) = true then put1 (rsearch (rt.l.take i) how key text) p.id else rsearch (rt.l.take i) how key text) := by
            rw [Hid, HST.out]
            by_cases e : hitV how text p.v = true
            · rw [if_pos ⟨HKE.out, e⟩]
              exact (if_pos e).symm
            · rw [if_neg (fun h => e h.2)]
              exact (if_neg e).symm
          have HC3 : Hid (CutI w3 a n c (rsearch (rt.l.take i) how key text)) := HC.out.below HT3.out.1
          clear HST HC
          have hn3 : n3 ≤ 200 := by rw [HT3.out.2.2]; exact textsL_len HVOK.out
          obtain ⟨wo, rfl⟩ : ∃ x : World, x = wr := ⟨_, rfl⟩
          go_wp2_with fail
          go_loopw [10, 14, 15] (fun v10 v14 v15 wr => ∃ j a' n' c', v14 = .int .i64 (j : Nat) ∧ v10 = .slice a' n' c' ∧ j ≤ n3 ∧ Hid (CutI wr a' n' c' (if ((textsL p.v).take j).any (fun t => fitsB how (bs text) (bs t)) = true then put1 (rsearch (rt.l.take i) how key text) p.id else rsearch (rt.l.take i) how key text)) ∧ Hid (Below w3.heap.size w3 wr)) (fun _ v14 _ _ => n3 - (intOf v14).toNat)
          case atStart => exact ⟨0, a, n, c, rfl, rfl, Nat.zero_le _, by simpa [Hid] using HC3.out, Below.refl _ _⟩
          case round =>
            obtain ⟨j, a', n', c', rfl, rfl, hj, HCQ, HBQ⟩ := hrel
            by_cases hjn : j < n3
            · have hj1 : (j : Int) < (n3 : Int) := by omega
              have hjl : j < (textsL p.v).length := by have := HT3.out.2.2; omega
              obtain ⟨tb, toff, hta, htc⟩ := (HT3.out.2.1.below HBQ.out).cell hjl
              subst hta
              obtain ⟨t, htt⟩ : ∃ t, (textsL p.v)[j] = t := ⟨_, rfl⟩
              rw [htt] at htc
              have HTT := Lib.hid htt
              have HF := Lib.hid (rfitsW_c how text t HT.out (by rw [← htt]; exact textsL_size HVOK.out _ (List.getElem_mem hjl)) wr)
              have HANY : Hid (((textsL p.v).take (j + 1)).any (fun t => fitsB how (bs text) (bs t)) = (((textsL p.v).take j).any (fun t => fitsB how (bs text) (bs t)) || fitsB how (bs text) (bs t))) := by
                rw [Hid, List.take_succ_eq_append_getElem hjl, List.any_append, htt]
                simp
              clear htt
              cases hf : fitsB how (bs text) (bs t) with
              | false =>
                rw [hf] at HF HANY
                rw [Bool.or_false] at HANY
                replace hf := Lib.hid hf
                go_wp2_with (go_at_call 51; refine HF.out.mono ?_; rintro e w5 ⟨rfl, hb5⟩)
                go_roundw
                case rel => exact ⟨j + 1, a', n', c', by go_num, rfl, by omega, by rw [Hid, HANY.out]; exact HCQ.out.below hb5, below_tr HBQ.out hb5⟩
                case measure => simp [intOf]; omega
              | true =>
                rw [hf] at HF HANY
                rw [Bool.or_true] at HANY
                replace hf := Lib.hid hf
                have HPUT : Hid (∀ W, Below wr.heap.size wr W → Calls Tryz.prog 32 #[.slice a' n' c', .int .i64 p.id] W fun e w' => ∃ v, e = .returned v ∧ SliceI w' v (put1 (rsearch (rt.l.take i) how key text) p.id) ∧ Below W.heap.size W w') := fun W hb => by
                  have hlen : (rsearch (rt.l.take i) how key text).length ≤ i := rsearch_len rt.l how key text i
                  have h0 := HCQ.out
                  by_cases e : ((textsL p.v).take j).any (fun t => fitsB how (bs text) (bs t)) = true
                  · rw [if_pos e] at h0
                    have hl2 := put1_length (rsearch (rt.l.take i) how key text) p.id
                    have hn' := h0.len (k := i + 1) (by omega)
                    have := put1_in (h0.below hb) p.id (by omega)
                    rw [put1_idem] at this
                    exact this
                  · rw [if_neg e] at h0
                    have hn' := h0.len hlen
                    exact put1_in (h0.below hb) p.id (by omega)
                have HK1 : Hid (∀ W, Below wr.heap.size wr W → W.cell? ⟨M, 0, none⟩ = some (.slice (some ⟨g, 0, none⟩) N vc) ∧ W.cell? ⟨g, i * 6, none⟩ = some (.int .i64 p.id)) := fun W hb => HK0.out W (below_tr HT3.out.1 (below_tr HBQ.out hb))
                go_upto_region 20 with (go_at_call 51; refine HF.out.mono ?_; rintro e w5 ⟨rfl, hb5⟩)
                obtain ⟨y0, y1⟩ := HK1.out w5 hb5
                have HB5 := Lib.hid hb5
                clear hb5
                go_wp2_with (go_at_call 32; refine (HPUT.out w5 HB5.out).mono ?_; rintro e w6 ⟨v6, rfl, ⟨a6, n6, c6, rfl, hs6⟩, hb6⟩)
                go_roundw
                case rel => exact ⟨j + 1, a6, n6, c6, by go_num, rfl, by omega, by rw [Hid, HANY.out, if_pos rfl]; exact hs6, below_tr HBQ.out (below_tr HB5.out hb6)⟩
                case measure => simp [intOf]; omega
            · have hj1 : ¬ (j : Int) < (n3 : Int) := by omega
              have HCF : Hid (CutI wr a' n' c' (rsearch (rt.l.take (i + 1)) how key text)) := by
                have h0 := HCQ.out
                rw [List.take_of_length_le (by have := HT3.out.2.2; omega)] at h0
                rw [Hid, HHIT.out]
                exact h0
              have HBF : Hid (Below w.heap.size w wr) := below_tr HBL.out (below_tr HT3.out.1 HBQ.out)
              clear HCQ HBQ HC3 HT3 HHIT
              go_wp2_with fail
              go_roundw
              case rel => exact ⟨i + 1, a', n', c', by go_num, rfl, by omega, HCF, HBF⟩
              case measure => simp [intOf]; omega
      · have hq : (p.key.toList == key.toList) = false := by rw [beqS]; exact decide_eq_false he
        have HST2 : Hid (rsearch (rt.l.take (i + 1)) how key text = rsearch (rt.l.take i) how key text) := by rw [Hid, HST.out, if_neg (fun e => he e.1)]
        clear he HST hcells
        go_wp2_with fail
        go_roundw
        case rel => exact ⟨i + 1, a, n, c, by go_num, rfl, by omega, by rw [Hid, HST2.out]; exact HC.out, HBL⟩
        case measure => simp [intOf]; omega
    · have hi1 : ¬ (i : Int) < (N : Int) := by omega
      have HFIN := Lib.hid (HE1.out (.slice a n c) wr ⟨a, n, c, rfl, by have := HC.out; rw [List.take_of_length_le (by have := HN.out; omega)] at this; exact this⟩ HBL.out)
      go_wp2_with fail
      exact HFIN.out
end
end Go.Proofs.YtnplmembdfklcaaGreatDoor
