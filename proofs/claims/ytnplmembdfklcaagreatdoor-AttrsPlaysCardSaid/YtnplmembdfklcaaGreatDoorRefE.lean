/-
  The document's store of attributes in memory; at, find, place. Helper text; the conditions are those typed.
  The document's questions about keys and values. Helper text; the conditions are those typed.
  The document's find, place, shaped, long. Helper text; the conditions are those typed.
  The document's Get and Schema: the walks. Helper text; the conditions are those typed.
  The document's Schema and New: the walks. Helper text; the conditions are those typed.
  The document's store: what a write changes. Helper text; the conditions are those typed.
-/
import Derived.Test.YtnplmembdfklcaaGreatDoorAwake
import Derived.Laws.RangeAny
import Derived.Test.YtnplmembdfklcaaGreatDoorTextsR
namespace Go.Proofs.YtnplmembdfklcaaGreatDoor
set_option linter.unusedVariables false
set_option linter.unusedSimpArgs false
open Go.RowKit Go.Maps

/-- A value under a key, and where its list lies. -/
structure KeptT where
  id : Int
  key : ByteArray
  v : ValT
  sl : Value
def keptCells (p : KeptT) : List Value := [.int .i64 p.id, .string p.key, .int .i64 p.v.kind, .int .i64 p.v.num, .string p.v.text, p.sl]
/-- What the document's store has. -/
structure RefT where
  l : List KeptT
  keys : List ByteArray
  kinds : List Int
  dirs : List ByteArray

theorem flat_get {α : Type} (c : Nat) (f : α → List Value) (hf : ∀ a, (f a).length = c) : ∀ (l : List α) (i : Nat) (hi : i < l.length) (j : Nat), j < c → (l.flatMap f)[i * c + j]? = (f l[i])[j]?
  | a :: l, 0, hi, j, hj => by
    rw [Nat.zero_mul, Nat.zero_add, List.flatMap_cons, List.getElem?_append_left (by rw [hf]; exact hj)]
    rfl
  | a :: l, i + 1, hi, j, hj => by
    rw [List.flatMap_cons, List.getElem?_append_right (by rw [hf, Nat.add_mul]; omega), hf]
    have e : (i + 1) * c + j - c = i * c + j := by rw [Nat.add_mul]; omega
    rw [e, flat_get c f hf l i (by simpa using hi) j hj]
    simp
theorem flat_len {α : Type} (c : Nat) (f : α → List Value) (hf : ∀ a, (f a).length = c) (l : List α) : (l.flatMap f).length = l.length * c := by
  induction l with
  | nil => simp
  | cons a l ih => rw [List.flatMap_cons, List.length_append, hf, ih, List.length_cons, Nat.add_mul]; omega

/-- The document's store at M. -/
structure RefIn (w : World) (B : Nat) (role : Nat → Role) (M : Nat) (vL vK vN vD : Value) (rt : RefT) : Prop where
  box : BoxN w M [vL, vK, vN, vD] 39
  l : w.ownsRow B 70 6 vL rt.l.length (rt.l.flatMap keptCells)
  keys : w.ownsRow B 9 1 vK rt.keys.length (rt.keys.map .string)
  kinds : w.ownsRow B 3 1 vN rt.kinds.length (rt.kinds.map (.int .i64))
  dirs : w.ownsRow B 9 1 vD rt.dirs.length (rt.dirs.map .string)
  cont : ∀ p ∈ rt.l, StrsV w (fun b => role b = .content) p.v.list p.sl
  rM : role M = .box
  rL : ∀ g, vL.ownBlock = some g → role g = .values
  rK : ∀ g, vK.ownBlock = some g → role g = .keys
  rN : ∀ g, vN.ownBlock = some g → role g = .kinds
  rD : ∀ g, vD.ownBlock = some g → role g = .dirs
  lo : ∀ b, role b ≠ .free → B ≤ b
  hi : Inn role w

section
variable {w w' : World} {B : Nat} {role role' : Nat → Role} {M : Nat} {vL vK vN vD : Value} {rt : RefT} {T : Role → Prop}
theorem RefIn.blk (h : RefIn w B role M vL vK vN vD rt) (hs : Step T role w role' w') {b : Nat} {R : Role} (hr : role b = R) (hR : R ≠ .free) (hT : ¬ T R) : w'.heap[b]? = w.heap[b]? ∧ role' b = R := by
  obtain ⟨h1, h2⟩ := hs.same b (h.hi b (by rw [hr]; exact hR)) (by rw [hr]; exact hT)
  exact ⟨h1, h2.trans hr⟩
theorem RefIn.cont_to (h : RefIn w B role M vL vK vN vD rt) (hs : Step T role w role' w') (hT : ¬ T .content) {l : List ByteArray} {v : Value} (hv : StrsV w (fun b => role b = .content) l v) : StrsV w' (fun b => role' b = .content) l v :=
  hv.keep (fun b hb => (h.blk hs (R := .content) hb (by simp) hT).2) (fun b hb _ => (h.blk hs (R := .content) hb (by simp) hT).1)
/-- What leaves the store's blocks alone leaves the store. -/
theorem RefIn.keep (h : RefIn w B role M vL vK vN vD rt) (hs : Step (fun _ => False) role w role' w') (hB : B ≤ w.heap.size) : RefIn w' B role' M vL vK vN vD rt :=
  ⟨h.box.to (h.blk hs h.rM (by simp) (fun h => h)).1, ownsRow_to h.l fun g hg => (h.blk hs (h.rL g hg) (by simp) (fun h => h)).1, ownsRow_to h.keys fun g hg => (h.blk hs (h.rK g hg) (by simp) (fun h => h)).1, ownsRow_to h.kinds fun g hg => (h.blk hs (h.rN g hg) (by simp) (fun h => h)).1, ownsRow_to h.dirs fun g hg => (h.blk hs (h.rD g hg) (by simp) (fun h => h)).1,
    fun p hp => h.cont_to hs (fun h => h) (h.cont p hp), (h.blk hs h.rM (by simp) (fun h => h)).2, fun g hg => (h.blk hs (h.rL g hg) (by simp) (fun h => h)).2, fun g hg => (h.blk hs (h.rK g hg) (by simp) (fun h => h)).2, fun g hg => (h.blk hs (h.rN g hg) (by simp) (fun h => h)).2, fun g hg => (h.blk hs (h.rD g hg) (by simp) (fun h => h)).2, hs.lo (h := h.lo) hB, hs.inn⟩
theorem RefIn.below (h : RefIn w B role M vL vK vN vD rt) (hB : B ≤ w.heap.size) (hb : Below w.heap.size w w') : RefIn w' B role M vL vK vN vD rt := h.keep (Step.of_below h.hi hb) hB
end

/-- A place, or none. -/
def idxOr (o : Option Nat) : Int := match o with | some i => (i : Int) | none => -1
def keyIdx (l : List ByteArray) (k : ByteArray) : Option Nat := l.findIdx? fun x => decide (x = k)
def keptIdx (l : List KeptT) (id : Int) (k : ByteArray) : Option Nat := l.findIdx? fun p => decide (p.id = id) && decide (p.key = k)
theorem findIdx_step {α : Type} {p : α → Bool} {l : List α} {i : Nat} (hi : i < l.length) (h : ∀ j (hj : j < i), p (l[j]'(Nat.lt_trans hj hi)) = false) (hp : p l[i] = true) : l.findIdx? p = some i := by
  rw [List.findIdx?_eq_some_iff_getElem]
  exact ⟨hi, hp, fun j hj => by simpa using h j hj⟩
theorem findIdx_end {α : Type} {p : α → Bool} {l : List α} (h : ∀ j (hj : j < l.length), p l[j] = false) : l.findIdx? p = none := by
  rw [List.findIdx?_eq_none_iff]
  intro x hx
  obtain ⟨j, hj, rfl⟩ := List.mem_iff_getElem.1 hx
  exact h j hj

section
variable {w : World} {B : Nat} {role : Nat → Role} {M : Nat} {vL vK vN vD : Value} {rt : RefT}
set_option maxHeartbeats 1000000 in
set_option maxRecDepth 100000 in
theorem at_c (h : RefIn w B role M vL vK vN vD rt) (k : ByteArray) : Calls Tryz.prog 48 #[.pointer (some ⟨M, 0, none⟩), .string k] w fun e w' => e = .returned (.int .i64 (idxOr (keyIdx rt.keys k))) ∧ w' = w := by
  obtain ⟨ra, rc, hv⟩ := ownsRow_slice h.keys
  have HK := Lib.hid h.keys
  have c1 := h.box.cell (j := 1) rfl
  subst hv
  clear h
  unfold keyIdx
  generalize rt.keys = ks at *
  obtain ⟨N, hN⟩ : ∃ N, ks.length = N := ⟨_, rfl⟩
  rw [hN] at HK c1
  have HN := Lib.hid hN
  have hNm : N ≤ 9223372036854775807 := by
    rcases ownsRow_form HK.out with ⟨_, h0⟩ | ⟨g, cap, _, h1, h2⟩
    · omega
    · unfold maxLen at h2; omega
  clear hN
  go_enter Tryz.func48, Tryz.ntmps48
  go_wp2_with fail
  go_loopw [5] (fun v5 wr => ∃ i : Nat, v5 = .int .i64 i ∧ i ≤ N ∧ w = wr ∧ Hid (∀ j (hj : j < ks.length), j < i → decide (ks[j] = k) = false)) (fun v5 _ => N - (intOf v5).toNat)
  case atStart => exact ⟨0, rfl, Nat.zero_le _, by trivial, fun j hj h => absurd h (Nat.not_lt_zero _)⟩
  case round =>
    obtain ⟨i, rfl, hi, rfl, HP⟩ := hrel
    by_cases hlt : i < N
    · have hi1 : (i : Int) < (N : Int) := by omega
      have hil : i < ks.length := by have := HN.out; omega
      obtain ⟨g, cap, hf, _⟩ := (ownsRow_form HK.out).resolve_left (fun h => by have := h.2; omega)
      injection hf with hf1 _ hf3
      subst hf1 hf3
      have c2 : w.cell? ⟨g, i, none⟩ = some (.string ks[i]) := ownsRow_cell HK.out (by simp [hil])
      by_cases he : ks[i] = k
      · have hq : (ks[i].toList == k.toList) = true := by rw [beqS]; exact decide_eq_true he
        have HF : Hid (ks.findIdx? (fun x => decide (x = k)) = some i) := findIdx_step hil (fun j hj => HP.out j (by omega) hj) (decide_eq_true he)
        clear he
        go_wp2_with fail
        go_ret
        exact ⟨by rw [HF.out]; rfl, rfl⟩
      · have hq : (ks[i].toList == k.toList) = false := by rw [beqS]; exact decide_eq_false he
        have HF : Hid (∀ j (hj : j < ks.length), j < i + 1 → decide (ks[j] = k) = false) := fun j hj hji => by
          by_cases e : j = i
          · subst e; exact decide_eq_false he
          · exact HP.out j hj (by omega)
        clear he
        go_wp2_with fail
        go_roundw
        case rel => exact ⟨i + 1, by go_num, by omega, by trivial, HF⟩
        case measure => simp [intOf]; omega
    · have hi1 : ¬ (i : Int) < (N : Int) := by omega
      have HF : Hid (ks.findIdx? (fun x => decide (x = k)) = none) := findIdx_end fun j hj => HP.out j hj (by have := HN.out; omega)
      go_wp2_with fail
      go_ret
      exact ⟨by rw [HF.out]; rfl, rfl⟩
end
end Go.Proofs.YtnplmembdfklcaaGreatDoor
namespace Go.Proofs.YtnplmembdfklcaaGreatDoor
set_option linter.unusedVariables false
set_option linter.unusedSimpArgs false
open Go.RowKit Go.Maps

/-- Every byte is asked for. -/
def allBy (p : Nat → Bool) (s : ByteArray) : Bool := (bs s).all fun b => p b.toNat
theorem idx_all (p : Nat → Bool) (hp : ∀ r, p r = true → r < 128) (s : ByteArray) : ∀ (f pos : Nat), s.size ≤ pos + f → (Lib.idxFuncFrom (fun r => !p r) true s f pos < 0 ↔ ∀ i (h : i < s.size), pos ≤ i → p s[i].toNat = true)
  | 0, pos, hf => by
    refine ⟨fun _ i h hi => by omega, fun _ => by show (-1 : Int) < 0; decide⟩
  | f + 1, pos, hf => by
    unfold Lib.idxFuncFrom
    by_cases hpos : pos < s.size
    · rw [if_pos hpos]
      by_cases ha : (s[pos]'hpos).toNat < 128
      · rw [decode_ascii s pos hpos ha]
        cases hq : p (s[pos]'hpos).toNat with
        | false =>
          simp only [Bool.not_false, if_true]
          refine ⟨fun h => absurd h (by omega), fun h => ?_⟩
          have := h pos hpos (Nat.le_refl _)
          rw [hq] at this; cases this
        | true =>
          simp only [hq, Bool.not_true, if_false, Bool.false_eq_true]
          rw [idx_all p hp s f (pos + 1) (by omega)]
          refine ⟨fun h i hi hle => ?_, fun h i hi hle => h i hi (by omega)⟩
          rcases Nat.eq_or_lt_of_le hle with e | e
          · subst e; exact hq
          · exact h i hi e
      · have hd := (decode_high s pos hpos (by omega)).1
        have hn : p (Utf8.decode s pos).1 = false := by
          cases h : p (Utf8.decode s pos).1 with
          | false => rfl
          | true => have := hp _ h; omega
        rw [hn]
        simp only [Bool.not_false, if_true]
        refine ⟨fun h => absurd h (by omega), fun h => ?_⟩
        have := hp _ (h pos hpos (Nat.le_refl _))
        omega
    · rw [if_neg hpos]
      exact ⟨fun _ i h hi => by omega, fun _ => by decide⟩
theorem idx_by (p : Nat → Bool) (hp : ∀ r, p r = true → r < 128) (s : ByteArray) : decide (Lib.idxFunc (fun r => !p r) true s < 0) = allBy p s := by
  unfold Lib.idxFunc allBy
  rw [Bool.eq_iff_iff, decide_eq_true_eq, idx_all p hp s s.size 0 (by omega), List.all_eq_true]
  constructor
  · intro h x hx
    obtain ⟨i, hi, rfl⟩ := List.getElem_of_mem hx
    have hi' : i < s.size := by rw [← bs_len]; exact hi
    exact h i hi' (Nat.zero_le _)
  · intro h i hi _
    exact h _ (List.getElem_mem (l := bs s) (by rw [bs_len]; exact hi))

def keyR (r : Nat) : Bool := decide (97 ≤ r ∧ r ≤ 122) || decide (48 ≤ r ∧ r ≤ 57) || hasR r
theorem hasR_fin : ∀ r : Fin 128, hasR r.val = (decide (r.val = 58) || decide (r.val = 46) || decide (r.val = 95) || decide (r.val = 45)) := by decide +kernel
theorem hasR_eq (r : Nat) : hasR r = (decide (r = 58) || decide (r = 46) || decide (r = 95) || decide (r = 45)) := by
  by_cases h : r < 128
  · exact hasR_fin ⟨r, h⟩
  · have e : hasR r = false := by unfold hasR; simp [h]
    rw [e, decide_eq_false (show ¬ r = 58 by omega), decide_eq_false (show ¬ r = 46 by omega), decide_eq_false (show ¬ r = 95 by omega), decide_eq_false (show ¬ r = 45 by omega)]
    rfl
theorem keyR_lt (r : Nat) (h : keyR r = true) : r < 128 := by
  unfold keyR hasR at h
  simp at h
  omega
theorem nameB_eq (s : ByteArray) : nameB s = (match bs s with | [] => false | c :: _ => decide (s.size ≤ 60) && decide (97 ≤ c.toNat) && decide (c.toNat ≤ 122) && allBy keyR s) := by
  unfold nameB
  rw [show oddK = fun r => !keyR r from rfl, idx_by keyR keyR_lt s]
  cases bs s <;> rfl
theorem allBy_step (p : Nat → Bool) (s : ByteArray) (h : ∀ i (hi : i < s.size), p (s[i]'hi).toNat = true) : allBy p s = true := by
  unfold allBy
  rw [List.all_eq_true]
  intro x hx
  obtain ⟨i, hi, rfl⟩ := List.getElem_of_mem hx
  exact h i (by rw [← bs_len]; exact hi)
theorem allBy_no (p : Nat → Bool) (s : ByteArray) (i : Nat) (hi : i < s.size) (h : p (s[i]'hi).toNat = false) : allBy p s = false := by
  unfold allBy
  rw [List.all_eq_false]
  exact ⟨s[i]'hi, List.getElem_mem (l := bs s) (by rw [bs_len]; exact hi), by rw [h]; decide⟩

set_option maxHeartbeats 2000000 in
set_option maxRecDepth 100000 in
/-- key. -/
theorem rkey_c (s : ByteArray) (w : World) : Calls Tryz.prog 45 #[.string s] w fun e w' => e = .returned (.bool (nameB s)) ∧ w' = w := by
  rw [nameB_eq]
  by_cases h0 : s.size = 0
  · have hs : bs s = [] := List.eq_nil_of_length_eq_zero (by rw [bs_len]; exact h0)
    have k0 : (s.size : Int) < 1 := by omega
    rw [hs]
    clear hs h0
    go_enter Tryz.func45, Tryz.ntmps45
    go_wp2_with fail
    go_ret
    exact ⟨rfl, rfl⟩
  have hi0 : 0 < s.size := by omega
  obtain ⟨c, r, hs⟩ : ∃ c r, bs s = c :: r := by
    cases h : bs s with
    | nil => have := bs_len s; rw [h] at this; simp at this; omega
    | cons c r => exact ⟨c, r, rfl⟩
  have hc : s[0]'hi0 = c := by
    have h1 : (bs s)[0]? = some (s[0]'hi0) := by
      rw [List.getElem?_eq_getElem (by rw [bs_len]; exact hi0)]
      rfl
    rw [hs] at h1
    exact (Option.some.inj h1).symm
  rw [hs]
  have k0 : ¬ (s.size : Int) < 1 := by omega
  by_cases h1 : s.size ≤ 60
  · have k1 : ¬ 60 < (s.size : Int) := by omega
    by_cases h2 : 97 ≤ c.toNat
    · have k2 : ¬ ((c.toNat : Int) < 97) := by omega
      by_cases h3 : c.toNat ≤ 122
      · have k3 : ¬ 122 < (c.toNat : Int) := by omega
        simp only [h1, h2, h3, decide_true, Bool.and_true, Bool.true_and]
        rw [← hc] at k2 k3
        have hsz : s.size ≤ 60 := h1
        clear hc hs h0 h1 h2 h3
        go_enter Tryz.func45, Tryz.ntmps45
        go_wp2_with fail
        go_loopw [3] (fun v3 wr => ∃ i : Nat, v3 = .int .i64 i ∧ i ≤ s.size ∧ w = wr ∧ Hid (∀ j (hj : j < s.size), j < i → keyR (s[j]'hj).toNat = true)) (fun v3 _ => s.size - (intOf v3).toNat)
        case atStart => exact ⟨0, rfl, Nat.zero_le _, by trivial, fun j hj h => absurd h (Nat.not_lt_zero _)⟩
        case round =>
          obtain ⟨i, rfl, hi, rfl, HP⟩ := hrel
          by_cases hlt : i < s.size
          · have hi1 : (i : Int) < (s.size : Int) := by omega
            have HX : Hid (keyR (s[i]'hlt).toNat = true → ∀ j (hj : j < s.size), j < i + 1 → keyR (s[j]'hj).toNat = true) := fun hk j hj hji => by
              by_cases e : j = i
              · subst e; exact hk
              · exact HP.out j hj (by omega)
            have HN : Hid (keyR (s[i]'hlt).toNat = false → allBy keyR s = false) := fun hk => allBy_no keyR s i hlt hk
            have hx256 : (s[i]'hlt).toNat < 256 := (s[i]'hlt).toNat_lt
            have HV : Hid (∀ x : Nat, keyR x = (decide (97 ≤ x ∧ x ≤ 122) || decide (48 ≤ x ∧ x ≤ 57) || (decide (x = 58) || decide (x = 46) || decide (x = 95) || decide (x = 45)))) := fun x => by unfold keyR; rw [hasR_eq]
            clear HP
            have H : (97 ≤ (s[i]'hlt).toNat ∧ (s[i]'hlt).toNat ≤ 122) ∨ ((s[i]'hlt).toNat < 97 ∧ 48 ≤ (s[i]'hlt).toNat ∧ (s[i]'hlt).toNat ≤ 57) ∨ (s[i]'hlt).toNat = 58 ∨ (s[i]'hlt).toNat = 46 ∨ (s[i]'hlt).toNat = 95 ∨ (s[i]'hlt).toNat = 45 ∨ (((s[i]'hlt).toNat < 48 ∨ (57 < (s[i]'hlt).toNat ∧ (s[i]'hlt).toNat < 97) ∨ 122 < (s[i]'hlt).toNat) ∧ (s[i]'hlt).toNat ≠ 58 ∧ (s[i]'hlt).toNat ≠ 46 ∧ (s[i]'hlt).toNat ≠ 95 ∧ (s[i]'hlt).toNat ≠ 45) := by omega
            rcases H with ⟨h1, h2⟩ | ⟨h1, h2, h3⟩ | hx | hx | hx | hx | ⟨hh, n1, n2, n3, n4⟩
            · have q1 : ¬ ((s[i]'hlt).toNat : Int) < 97 := by omega
              have q2 : ¬ 122 < ((s[i]'hlt).toNat : Int) := by omega
              have HK : Hid (keyR (s[i]'hlt).toNat = true) := by show _ = _; rw [HV.out]; simp; omega
              clear HN HV h1 h2 hx256
              go_wp2_with fail
              go_roundw
              case rel => exact ⟨i + 1, by go_num, by omega, by trivial, HX.out HK.out⟩
              case measure => simp [intOf]; omega
            · have q1 : ((s[i]'hlt).toNat : Int) < 97 := by omega
              have q2 : ¬ ((s[i]'hlt).toNat : Int) < 48 := by omega
              have q3 : ¬ 57 < ((s[i]'hlt).toNat : Int) := by omega
              have HK : Hid (keyR (s[i]'hlt).toNat = true) := by show _ = _; rw [HV.out]; simp; omega
              clear HN HV h1 h2 h3 hx256
              go_wp2_with fail
              go_roundw
              case rel => exact ⟨i + 1, by go_num, by omega, by trivial, HX.out HK.out⟩
              case measure => simp [intOf]; omega
            · have HK : Hid (keyR (s[i]'hlt).toNat = true) := by show _ = _; rw [HV.out, hx]; decide
              have q0 : ((s[i]'hlt).toNat : Int) = 58 := by omega
              clear HN HV hx256 hx
              go_wp2_with fail
              go_roundw
              case rel => exact ⟨i + 1, by go_num, by omega, by trivial, HX.out HK.out⟩
              case measure => simp [intOf]; omega
            · have HK : Hid (keyR (s[i]'hlt).toNat = true) := by show _ = _; rw [HV.out, hx]; decide
              have q0 : ((s[i]'hlt).toNat : Int) = 46 := by omega
              clear HN HV hx256 hx
              go_wp2_with fail
              go_roundw
              case rel => exact ⟨i + 1, by go_num, by omega, by trivial, HX.out HK.out⟩
              case measure => simp [intOf]; omega
            · have HK : Hid (keyR (s[i]'hlt).toNat = true) := by show _ = _; rw [HV.out, hx]; decide
              have q0 : ((s[i]'hlt).toNat : Int) = 95 := by omega
              clear HN HV hx256 hx
              go_wp2_with fail
              go_roundw
              case rel => exact ⟨i + 1, by go_num, by omega, by trivial, HX.out HK.out⟩
              case measure => simp [intOf]; omega
            · have HK : Hid (keyR (s[i]'hlt).toNat = true) := by show _ = _; rw [HV.out, hx]; decide
              have q0 : ((s[i]'hlt).toNat : Int) = 45 := by omega
              clear HN HV hx256 hx
              go_wp2_with fail
              go_roundw
              case rel => exact ⟨i + 1, by go_num, by omega, by trivial, HX.out HK.out⟩
              case measure => simp [intOf]; omega
            · have HK : Hid (allBy keyR s = false) := HN.out (by rw [HV.out]; simp [n1, n2, n3, n4]; omega)
              have b1 : (((s[i]'hlt).toNat : Int) != 58) = true := by simp; omega
              have b2 : (((s[i]'hlt).toNat : Int) != 46) = true := by simp; omega
              have b3 : (((s[i]'hlt).toNat : Int) != 95) = true := by simp; omega
              have b4 : (((s[i]'hlt).toNat : Int) != 45) = true := by simp; omega
              clear HN HV HX n1 n2 n3 n4 hx256
              rcases hh with hh | ⟨h1, h2⟩ | hh
              · have q1 : ((s[i]'hlt).toNat : Int) < 97 := by omega
                have q2 : ((s[i]'hlt).toNat : Int) < 48 := by omega
                clear hh
                go_wp2_with fail
                go_ret
                exact ⟨by rw [HK.out]; rfl, rfl⟩
              · have q1 : ((s[i]'hlt).toNat : Int) < 97 := by omega
                have q2 : ¬ ((s[i]'hlt).toNat : Int) < 48 := by omega
                have q3 : 57 < ((s[i]'hlt).toNat : Int) := by omega
                clear h1 h2
                go_wp2_with fail
                go_ret
                exact ⟨by rw [HK.out]; rfl, rfl⟩
              · have q1 : ¬ ((s[i]'hlt).toNat : Int) < 97 := by omega
                have q4 : 122 < ((s[i]'hlt).toNat : Int) := by omega
                have q2 : ¬ ((s[i]'hlt).toNat : Int) < 48 := by omega
                have q3 : 57 < ((s[i]'hlt).toNat : Int) := by omega
                clear hh
                go_wp2_with fail
                go_ret
                exact ⟨by rw [HK.out]; rfl, rfl⟩
          · have hi1 : ¬ (i : Int) < (s.size : Int) := by omega
            have HF : Hid (allBy keyR s = true) := allBy_step keyR s fun j hj => HP.out j hj (by omega)
            go_wp2_with fail
            go_ret
            exact ⟨by rw [HF.out]; rfl, rfl⟩
      · have k3 : 122 < (c.toNat : Int) := by omega
        simp only [h3, decide_false, Bool.and_false, Bool.false_and]
        rw [← hc] at k2 k3
        clear hc hs h0 h1 h2 h3
        go_enter Tryz.func45, Tryz.ntmps45
        go_wp2_with fail
        go_ret
        exact ⟨rfl, rfl⟩
    · have k2 : (c.toNat : Int) < 97 := by omega
      simp only [h2, decide_false, Bool.and_false, Bool.false_and]
      rw [← hc] at k2
      clear hc hs h0 h1 h2
      go_enter Tryz.func45, Tryz.ntmps45
      go_wp2_with fail
      go_ret
      exact ⟨rfl, rfl⟩
  · have k1 : 60 < (s.size : Int) := by omega
    simp only [h1, decide_false, Bool.and_false, Bool.false_and]
    clear hc hs h0 h1
    go_enter Tryz.func45, Tryz.ntmps45
    go_wp2_with fail
    go_ret
    exact ⟨rfl, rfl⟩
end Go.Proofs.YtnplmembdfklcaaGreatDoor
namespace Go.Proofs.YtnplmembdfklcaaGreatDoor
set_option linter.unusedVariables false
set_option linter.unusedSimpArgs false
open Go.RowKit Go.Maps

theorem row_max {w : World} {B : Nat} {e : TypeId} {k n : Nat} {v : Value} {xs : List Value} (h : w.ownsRow B e k v n xs) : n ≤ 9223372036854775807 := by
  rcases ownsRow_form h with ⟨_, h0⟩ | ⟨g, cap, _, h1, h2⟩
  · omega
  · unfold maxLen at h2; omega
theorem keptCells_len (p : KeptT) : (keptCells p).length = 6 := rfl

section
variable {w : World} {B : Nat} {role : Nat → Role} {M : Nat} {vL vK vN vD : Value} {rt : RefT}
set_option maxHeartbeats 1000000 in
set_option maxRecDepth 100000 in
theorem place_c (h : RefIn w B role M vL vK vN vD rt) (k : ByteArray) : Calls Tryz.prog 53 #[.pointer (some ⟨M, 0, none⟩), .string k] w fun e w' => e = .returned (.int .i64 (idxOr (keyIdx rt.dirs k))) ∧ w' = w := by
  obtain ⟨ra, rc, hv⟩ := ownsRow_slice h.dirs
  have HK := Lib.hid h.dirs
  have c1 := h.box.cell (j := 3) rfl
  subst hv
  clear h
  unfold keyIdx
  generalize rt.dirs = ks at *
  obtain ⟨N, hN⟩ : ∃ N, ks.length = N := ⟨_, rfl⟩
  rw [hN] at HK c1
  have HN := Lib.hid hN
  have hNm : N ≤ 9223372036854775807 := row_max HK.out
  clear hN
  go_enter Tryz.func53, Tryz.ntmps53
  go_wp2_with fail
  go_loopw [5] (fun v5 wr => ∃ i : Nat, v5 = .int .i64 i ∧ i ≤ N ∧ w = wr ∧ Hid (∀ j (hj : j < ks.length), j < i → decide (ks[j] = k) = false)) (fun v5 _ => N - (intOf v5).toNat)
  case atStart => exact ⟨0, rfl, Nat.zero_le _, by trivial, fun j hj h => absurd h (Nat.not_lt_zero _)⟩
  case round =>
    obtain ⟨i, rfl, hi, rfl, HP⟩ := hrel
    by_cases hlt : i < N
    · have hi1 : (i : Int) < (N : Int) := by omega
      have hil : i < ks.length := by have := HN.out; omega
      obtain ⟨g, cap, hf, _⟩ := (ownsRow_form HK.out).resolve_left (fun h => by have := h.2; omega)
      injection hf with hf1 _ hf3
      subst hf1 hf3
      have c2 : w.cell? ⟨g, i, none⟩ = some (.string ks[i]) := ownsRow_cell HK.out (by simp [hil])
      by_cases he : ks[i] = k
      · have hq : (ks[i].toList == k.toList) = true := by rw [beqS]; exact decide_eq_true he
        have HF : Hid (ks.findIdx? (fun x => decide (x = k)) = some i) := findIdx_step hil (fun j hj => HP.out j (by omega) hj) (decide_eq_true he)
        clear he
        go_wp2_with fail
        go_ret
        exact ⟨by rw [HF.out]; rfl, rfl⟩
      · have hq : (ks[i].toList == k.toList) = false := by rw [beqS]; exact decide_eq_false he
        have HF : Hid (∀ j (hj : j < ks.length), j < i + 1 → decide (ks[j] = k) = false) := fun j hj hji => by
          by_cases e : j = i
          · subst e; exact decide_eq_false he
          · exact HP.out j hj (by omega)
        clear he
        go_wp2_with fail
        go_roundw
        case rel => exact ⟨i + 1, by go_num, by omega, by trivial, HF⟩
        case measure => simp [intOf]; omega
    · have hi1 : ¬ (i : Int) < (N : Int) := by omega
      have HF : Hid (ks.findIdx? (fun x => decide (x = k)) = none) := findIdx_end fun j hj => HP.out j hj (by have := HN.out; omega)
      go_wp2_with fail
      go_ret
      exact ⟨by rw [HF.out]; rfl, rfl⟩

set_option maxHeartbeats 1000000 in
set_option maxRecDepth 100000 in
theorem find_c (h : RefIn w B role M vL vK vN vD rt) (id : Int) (k : ByteArray) : Calls Tryz.prog 49 #[.pointer (some ⟨M, 0, none⟩), .int .i64 id, .string k] w fun e w' => e = .returned (.int .i64 (idxOr (keptIdx rt.l id k))) ∧ w' = w := by
  obtain ⟨ra, rc, hv⟩ := ownsRow_slice h.l
  have HK := Lib.hid h.l
  have c1 := h.box.cell (j := 0) rfl
  subst hv
  clear h
  unfold keptIdx
  generalize rt.l = ks at *
  obtain ⟨N, hN⟩ : ∃ N, ks.length = N := ⟨_, rfl⟩
  rw [hN] at HK c1
  have HN := Lib.hid hN
  have hNm : N ≤ 9223372036854775807 := row_max HK.out
  clear hN
  go_enter Tryz.func49, Tryz.ntmps49
  go_wp2_with fail
  go_loopw [7] (fun v7 wr => ∃ i : Nat, v7 = .int .i64 i ∧ i ≤ N ∧ w = wr ∧ Hid (∀ j (hj : j < ks.length), j < i → (decide (ks[j].id = id) && decide (ks[j].key = k)) = false)) (fun v7 _ => N - (intOf v7).toNat)
  case atStart => exact ⟨0, rfl, Nat.zero_le _, by trivial, fun j hj h => absurd h (Nat.not_lt_zero _)⟩
  case round =>
    obtain ⟨i, rfl, hi, rfl, HP⟩ := hrel
    by_cases hlt : i < N
    · have hi1 : (i : Int) < (N : Int) := by omega
      have hil : i < ks.length := by have := HN.out; omega
      obtain ⟨g, cap, hf, _⟩ := (ownsRow_form HK.out).resolve_left (fun h => by have := h.2; omega)
      injection hf with hf1 _ hf3
      subst hf1 hf3
      have c2 : w.cell? ⟨g, i * 6, none⟩ = some (.int .i64 ks[i].id) := ownsRow_cell HK.out (by rw [← Nat.add_zero (i * 6), flat_get 6 keptCells keptCells_len ks i hil 0 (by omega)]; rfl)
      have c3 : w.cell? ⟨g, i * 6 + 1, none⟩ = some (.string ks[i].key) := ownsRow_cell HK.out (by rw [flat_get 6 keptCells keptCells_len ks i hil 1 (by omega)]; rfl)
      by_cases he : ks[i].id = id
      · have hq0 : (ks[i].id == id) = true := by simpa using he
        by_cases he2 : ks[i].key = k
        · have hq : (ks[i].key.toList == k.toList) = true := by rw [beqS]; exact decide_eq_true he2
          have HF : Hid (ks.findIdx? (fun p => decide (p.id = id) && decide (p.key = k)) = some i) := findIdx_step hil (fun j hj => HP.out j (by omega) hj) (by rw [decide_eq_true he, decide_eq_true he2]; rfl)
          clear he he2
          go_wp2_with fail
          go_ret
          exact ⟨by rw [HF.out]; rfl, rfl⟩
        · have hq : (ks[i].key.toList == k.toList) = false := by rw [beqS]; exact decide_eq_false he2
          have HF : Hid (∀ j (hj : j < ks.length), j < i + 1 → (decide (ks[j].id = id) && decide (ks[j].key = k)) = false) := fun j hj hji => by
            by_cases e : j = i
            · subst e; rw [decide_eq_false he2, Bool.and_false]
            · exact HP.out j hj (by omega)
          clear he he2
          go_wp2_with fail
          go_roundw
          case rel => exact ⟨i + 1, by go_num, by omega, by trivial, HF⟩
          case measure => simp [intOf]; omega
      · have hq0 : (ks[i].id == id) = false := by simpa using he
        have HF : Hid (∀ j (hj : j < ks.length), j < i + 1 → (decide (ks[j].id = id) && decide (ks[j].key = k)) = false) := fun j hj hji => by
          by_cases e : j = i
          · subst e; rw [decide_eq_false he, Bool.false_and]
          · exact HP.out j hj (by omega)
        clear he
        go_wp2_with fail
        go_roundw
        case rel => exact ⟨i + 1, by go_num, by omega, by trivial, HF⟩
        case measure => simp [intOf]; omega
    · have hi1 : ¬ (i : Int) < (N : Int) := by omega
      have HF : Hid (ks.findIdx? (fun p => decide (p.id = id) && decide (p.key = k)) = none) := findIdx_end fun j hj => HP.out j hj (by have := HN.out; omega)
      go_wp2_with fail
      go_ret
      exact ⟨by rw [HF.out]; rfl, rfl⟩
end

set_option maxHeartbeats 2000000 in
set_option maxRecDepth 100000 in
theorem rshaped_c (k n : Int) (t : ByteArray) (a : Option Addr) (ln c : Nat) (w : World) :
    Calls Tryz.prog 46 #[.agg #[.int .i64 k, .int .i64 n, .string t, .slice a ln c]] w fun e w' => e = .returned (.bool (shB k n t ln)) ∧ Below w.heap.size w w' := by
  have HB : Hid (Below w.heap.size w (w.alloc (.cells #[.int .i64 k, .int .i64 n, .string t, .slice a ln c] 31))) := below1 _ _
  have e1 := eqE t
  obtain ⟨R, hR⟩ : ∃ R, shB k n t ln = R := ⟨_, rfl⟩
  rw [hR]
  unfold shB at hR
  have eln : ((ln : Int) == 0) = decide (ln = 0) := by
    by_cases h : ln = 0
    · subst h; rfl
    · rw [decide_eq_false h]; simpa using h
  have en : (n == 0) = decide (n = 0) := by
    by_cases h : n = 0
    · subst h; rfl
    · rw [decide_eq_false h]; simpa using h
  generalize decide (t = ⟨#[]⟩) = bt at e1 hR
  generalize decide (ln = 0) = bl at eln hR
  generalize decide (n = 0) = bn at en hR
  by_cases k1 : k = 1
  · subst k1
    rw [if_pos rfl] at hR
    subst hR
    cases bt <;> cases bl
    all_goals
      clear en
      go_enter Tryz.func46, Tryz.ntmps46
      go_wp2_with fail
      go_ret
      exact ⟨rfl, HB.out⟩
  · rw [if_neg k1] at hR
    have b1 : (k == 1) = false := by simpa using k1
    by_cases k2 : k = 2
    · subst k2
      rw [if_pos rfl] at hR
      subst hR
      cases bn <;> cases bl
      all_goals
        clear e1
        go_enter Tryz.func46, Tryz.ntmps46
        go_wp2_with fail
        go_ret
        exact ⟨rfl, HB.out⟩
    · rw [if_neg k2] at hR
      have b2 : (k == 2) = false := by simpa using k2
      by_cases k3 : k = 3
      · subst k3
        rw [decide_eq_true rfl, Bool.true_and] at hR
        subst hR
        cases bn <;> cases bt
        all_goals
          clear eln
          go_enter Tryz.func46, Tryz.ntmps46
          go_wp2_with fail
          go_ret
          exact ⟨rfl, HB.out⟩
      · have b3 : (k == 3) = false := by simpa using k3
        rw [decide_eq_false k3, Bool.false_and, Bool.false_and] at hR
        subst hR
        clear e1 eln en k1 k2 k3
        go_enter Tryz.func46, Tryz.ntmps46
        go_wp2_with fail
        go_ret
        exact ⟨rfl, HB.out⟩

set_option maxHeartbeats 2000000 in
set_option maxRecDepth 100000 in
theorem rlong_c (v : ValT) (a : Option Addr) (ln c : Nat) (S : Nat → Prop) (w : World) (hv : StrsV w S v.list (.slice a ln c)) :
    Calls Tryz.prog 47 #[.agg #[.int .i64 v.kind, .int .i64 v.num, .string v.text, .slice a ln c]] w fun e w' => e = .returned (.bool (longB v)) ∧ Below w.heap.size w w' := by
  obtain ⟨w1, hw1⟩ : ∃ w1, w.alloc (.cells #[.int .i64 v.kind, .int .i64 v.num, .string v.text, .slice a ln c] 31) = w1 := ⟨_, rfl⟩
  have HW : Hid (Below w.heap.size w w1 ∧ BoxN w1 w.heap.size [.int .i64 v.kind, .int .i64 v.num, .string v.text, .slice a ln c] 31 ∧ StrsV w1 S v.list (.slice a ln c)) := by
    rw [← hw1]
    exact ⟨below1 _ _, boxN_alloc _ _ _, hv.below (below1 _ _)⟩
  have hln := hv.len
  have p2 := HW.out.2.1.cell (j := 2) rfl
  have p3 := HW.out.2.1.cell (j := 3) rfl
  obtain ⟨R, hR⟩ : ∃ R, longB v = R := ⟨_, rfl⟩
  rw [hR]
  unfold longB at hR
  rw [hln] at hR
  replace hln := Lib.hid hln
  clear hv
  by_cases h1 : 200 < v.text.size
  · have k1 : 200 < (v.text.size : Int) := by omega
    rw [decide_eq_true h1, Bool.true_or, Bool.true_or] at hR
    subst hR
    clear h1
    go_enter Tryz.func47, Tryz.ntmps47
    go_wp2_with fail
    go_ret
    exact ⟨rfl, HW.out.1⟩
  · have k1 : ¬ 200 < (v.text.size : Int) := by omega
    rw [decide_eq_false h1, Bool.false_or] at hR
    by_cases h2 : 200 < ln
    · have k2 : 200 < (ln : Int) := by omega
      rw [decide_eq_true h2, Bool.true_or] at hR
      subst hR
      clear h1 h2
      go_enter Tryz.func47, Tryz.ntmps47
      go_wp2_with fail
      go_ret
      exact ⟨rfl, HW.out.1⟩
    · have k2 : ¬ 200 < (ln : Int) := by omega
      rw [decide_eq_false h2, Bool.false_or] at hR
      replace hR := Lib.hid hR
      clear h1
      go_enter Tryz.func47, Tryz.ntmps47
      go_wp2_with fail
      go_loopw [3] (fun v3 wr => ∃ i : Nat, v3 = .int .i64 i ∧ i ≤ ln ∧ w1 = wr ∧ Hid (∀ j (hj : j < v.list.length), j < i → decide (200 < (v.list[j]).size) = false)) (fun v3 _ => ln - (intOf v3).toNat)
      case atStart => exact ⟨0, rfl, Nat.zero_le _, by trivial, fun j hj h => absurd h (Nat.not_lt_zero _)⟩
      case round =>
        obtain ⟨i, rfl, hi, rfl, HP⟩ := hrel
        by_cases hlt : i < ln
        · have hi1 : (i : Int) < (ln : Int) := by omega
          have hil : i < v.list.length := by have := hln.out; omega
          have hne : v.list ≠ [] := fun e => by rw [e] at hil; exact absurd hil (Nat.not_lt_zero _)
          obtain ⟨a', c', he, _, _, hin⟩ := HW.out.2.2
          obtain ⟨b, off, hab, _, hcells⟩ := hin hne
          injection he with he1
          subst he1
          subst hab
          have c0 := hcells i hil
          clear hin hcells
          by_cases hb : 200 < (v.list[i]).size
          · have k3 : 200 < ((v.list[i]).size : Int) := by omega
            have HF : Hid (R = true) := by
              show _ = _
              rw [← hR.out, List.any_eq_true]
              exact ⟨_, List.getElem_mem hil, decide_eq_true hb⟩
            clear hb
            go_wp2_with fail
            go_ret
            exact ⟨by rw [HF.out]; rfl, HW.out.1⟩
          · have k3 : ¬ 200 < ((v.list[i]).size : Int) := by omega
            have HF : Hid (∀ j (hj : j < v.list.length), j < i + 1 → decide (200 < (v.list[j]).size) = false) := fun j hj hji => by
              by_cases e : j = i
              · subst e; exact decide_eq_false hb
              · exact HP.out j hj (by omega)
            clear hb
            go_wp2_with fail
            go_roundw
            case rel => exact ⟨i + 1, by go_num, by omega, by trivial, HF⟩
            case measure => simp [intOf]; omega
        · have hi1 : ¬ (i : Int) < (ln : Int) := by omega
          have HF : Hid (R = false) := by
            show _ = _
            rw [← hR.out, List.any_eq_false]
            intro x hx
            obtain ⟨j, hj, rfl⟩ := List.mem_iff_getElem.1 hx
            have := HP.out j hj (by have := hln.out; omega)
            rw [this]; decide
          go_wp2_with fail
          go_ret
          exact ⟨by rw [HF.out]; rfl, HW.out.1⟩
end Go.Proofs.YtnplmembdfklcaaGreatDoor
namespace Go.Proofs.YtnplmembdfklcaaGreatDoor
set_option linter.unusedVariables false
set_option linter.unusedSimpArgs false
open Go.RowKit Go.Maps

/-- What the document's Get answers. -/
def RGetPost (l : List KeptT) (id : Int) (k : ByteArray) (w : World) (e : Ending) (w' : World) : Prop :=
  (match (keptIdx l id k).bind fun i => l[i]? with
    | some p => e = .returned (.tuple #[.agg #[.int .i64 p.v.kind, .int .i64 p.v.num, .string p.v.text, p.sl], .int .i64 0])
    | none => e = .returned (.tuple #[.agg #[.int .i64 0, .int .i64 0, .string ⟨#[]⟩, .slice none 0 0], .int .i64 84])) ∧ Below w.heap.size w w'

theorem keptIdx_lt {l : List KeptT} {id : Int} {k : ByteArray} {i : Nat} (h : keptIdx l id k = some i) : ∃ hi : i < l.length, l[i].id = id ∧ l[i].key = k := by
  unfold keptIdx at h
  rw [List.findIdx?_eq_some_iff_getElem] at h
  obtain ⟨hi, hp, _⟩ := h
  rw [Bool.and_eq_true] at hp
  exact ⟨hi, of_decide_eq_true hp.1, of_decide_eq_true hp.2⟩

section
variable {w : World} {B : Nat} {role : Nat → Role} {M : Nat} {vL vK vN vD : Value} {rt : RefT}
theorem RefIn.kept (h : RefIn w B role M vL vK vN vD rt) {i : Nat} (hi : i < rt.l.length) : ∃ g cap, vL = .slice (some ⟨g, 0, none⟩) rt.l.length cap ∧ ∀ j, j < 6 → w.cell? ⟨g, i * 6 + j, none⟩ = (keptCells rt.l[i])[j]? := by
  obtain ⟨g, cap, hf, _⟩ := (ownsRow_form h.l).resolve_left (fun h => by have := h.2; omega)
  subst hf
  refine ⟨g, cap, rfl, fun j hj => ?_⟩
  have e := flat_get 6 keptCells keptCells_len rt.l i hi j hj
  rw [← e]
  have hl : i * 6 + j < (rt.l.flatMap keptCells).length := by
    rw [flat_len 6 keptCells keptCells_len]
    omega
  rw [List.getElem?_eq_getElem hl]
  exact ownsRow_cell h.l (List.getElem?_eq_getElem hl)

set_option maxHeartbeats 2000000 in
set_option maxRecDepth 100000 in
theorem rget_c (h : RefIn w B role M vL vK vN vD rt) (hB : B ≤ w.heap.size) (id : Int) (k : ByteArray) : Calls Tryz.prog 23 #[.pointer (some ⟨M, 0, none⟩), .int .i64 id, .string k] w (RGetPost rt.l id k w) := by
  obtain ⟨W1, hW1⟩ : ∃ W1, w.alloc (.cells #[.int .i64 0, .int .i64 0, .string ⟨#[]⟩, .slice none 0 0] 31) = W1 := ⟨_, rfl⟩
  have HX1 : Hid (Below w.heap.size w W1 ∧ BoxN W1 w.heap.size [.int .i64 0, .int .i64 0, .string ⟨#[]⟩, .slice none 0 0] 31 ∧ W1.heap.size = w.heap.size + 1) := by
    rw [← hW1]
    exact ⟨below1 _ _, boxN_alloc _ _ _, by simp⟩
  have HS1 := Lib.hid (h.below hB HX1.out.1)
  have HF := Lib.hid (find_c HS1.out id k)
  have c0 := HX1.out.2.1.cell (j := 0) rfl
  have c1 := HX1.out.2.1.cell (j := 1) rfl
  have c2 := HX1.out.2.1.cell (j := 2) rfl
  have c3 := HX1.out.2.1.cell (j := 3) rfl
  have f0 := HX1.out.2.1.frozen 0
  have f1 := HX1.out.2.1.frozen 1
  have f2 := HX1.out.2.1.frozen 2
  have f3 := HX1.out.2.1.frozen 3
  cases hv : keptIdx rt.l id k with
  | none =>
    have HE : Hid (∀ w', Below w.heap.size w w' → RGetPost rt.l id k w (.returned (.tuple #[.agg #[.int .i64 0, .int .i64 0, .string ⟨#[]⟩, .slice none 0 0], .int .i64 84])) w') := fun w' hb => by
      unfold RGetPost
      rw [hv]
      exact ⟨rfl, hb⟩
    rw [hv] at HF
    simp only [idxOr] at HF
    generalize RGetPost rt.l id k w = Q at HE ⊢
    clear h hv
    go_enter Tryz.func23, Tryz.ntmps23
    go_upto_region 2 with (go_at_call 49; refine HF.out.mono ?_; rintro e w2 ⟨rfl, h2⟩; obtain rfl : W1 = w2 := h2.symm)
    have hlt : ((-1 : Int) < 0) := by decide
    go_wp2_with fail
    have HX5 := Lib.hid (store4 HX1.out.2.1 (.int .i64 0) (.int .i64 0) (.string ⟨#[]⟩) (.slice none 0 0))
    have HBF := Lib.hid (below_sc (below_sc (below_sc (below_sc HX1.out.1 (Nat.le_refl _) 0 (.int .i64 0)) (Nat.le_refl _) 1 (.int .i64 0)) (Nat.le_refl _) 2 (.string ⟨#[]⟩)) (Nat.le_refl _) 3 (.slice none 0 0))
    clear c0 c1 c2 c3 f0 f1 f2 f3 HX1 hW1
    generalize (((W1.setCell ⟨w.heap.size, 0, none⟩ (.int .i64 0)).setCell ⟨w.heap.size, 1, none⟩ (.int .i64 0)).setCell ⟨w.heap.size, 2, none⟩ (.string ⟨#[]⟩)).setCell ⟨w.heap.size, 3, none⟩ (.slice none 0 0) = W5 at HX5 HBF ⊢
    have d0 := HX5.out.cell (j := 0) rfl
    have d1 := HX5.out.cell (j := 1) rfl
    have d2 := HX5.out.cell (j := 2) rfl
    have d3 := HX5.out.cell (j := 3) rfl
    refine bodyPost_ret (v := .tuple #[.agg #[.int .i64 0, .int .i64 0, .string ⟨#[]⟩, .slice none 0 0], .int .i64 84]) (by simp [results, Tryz.results23, go_sem, d0, d1, d2, d3]) rfl ?_
    exact HE.out _ HBF.out
  | some i =>
    obtain ⟨hi, _, _⟩ := keptIdx_lt hv
    obtain ⟨g, cap, hvL, hcells⟩ := HS1.out.kept hi
    obtain ⟨p, hp⟩ : ∃ p, rt.l[i] = p := ⟨_, rfl⟩
    have HE : Hid (∀ w', Below w.heap.size w w' → RGetPost rt.l id k w (.returned (.tuple #[.agg #[.int .i64 p.v.kind, .int .i64 p.v.num, .string p.v.text, p.sl], .int .i64 0])) w') := fun w' hb => by
      unfold RGetPost
      rw [hv]
      simp only [Option.bind_some, List.getElem?_eq_getElem hi, hp]
      exact ⟨trivial, hb⟩
    rw [hp] at hcells
    obtain ⟨sa, sc, hsl, _⟩ := h.cont p (hp ▸ List.getElem_mem hi)
    rw [hsl] at HE
    have k2 := hcells 2 (by omega)
    have k3 := hcells 3 (by omega)
    have k4 := hcells 4 (by omega)
    have k5 := hcells 5 (by omega)
    simp only [keptCells, List.getElem?_cons_succ, List.getElem?_cons_zero] at k2 k3 k4 k5
    rw [hsl] at k5
    generalize p.v.list.length = ln at HE k5
    have m0 := HS1.out.box.cell (j := 0) rfl
    rw [hvL] at m0
    rw [hv] at HF
    simp only [idxOr] at HF
    generalize RGetPost rt.l id k w = Q at HE ⊢
    obtain ⟨N, hN⟩ : ∃ N, rt.l.length = N := ⟨_, rfl⟩
    have hNm : N ≤ 9223372036854775807 := by rw [← hN]; exact row_max h.l
    rw [hN] at m0 hi
    clear h hv hcells hp hvL hsl
    have hlt : ¬ ((i : Int) < 0) := by omega
    have hiN : (i : Int) < (N : Int) := by omega
    replace hN := Lib.hid hN
    generalize rt = RT at *
    go_enter Tryz.func23, Tryz.ntmps23
    go_upto_region 2 with (go_at_call 49; refine HF.out.mono ?_; rintro e w2 ⟨rfl, h2⟩; obtain rfl : W1 = w2 := h2.symm)
    go_wp2_with fail
    have HX5 := Lib.hid (store4 HX1.out.2.1 (.int .i64 p.v.kind) (.int .i64 p.v.num) (.string p.v.text) (.slice sa ln sc))
    have HBF := Lib.hid (below_sc (below_sc (below_sc (below_sc HX1.out.1 (Nat.le_refl _) 0 (.int .i64 p.v.kind)) (Nat.le_refl _) 1 (.int .i64 p.v.num)) (Nat.le_refl _) 2 (.string p.v.text)) (Nat.le_refl _) 3 (.slice sa ln sc))
    clear c0 c1 c2 c3 f0 f1 f2 f3 HX1 hW1 k2 k3 k4 k5
    generalize (((W1.setCell ⟨w.heap.size, 0, none⟩ (.int .i64 p.v.kind)).setCell ⟨w.heap.size, 1, none⟩ (.int .i64 p.v.num)).setCell ⟨w.heap.size, 2, none⟩ (.string p.v.text)).setCell ⟨w.heap.size, 3, none⟩ (.slice sa ln sc) = W5 at HX5 HBF ⊢
    have d0 := HX5.out.cell (j := 0) rfl
    have d1 := HX5.out.cell (j := 1) rfl
    have d2 := HX5.out.cell (j := 2) rfl
    have d3 := HX5.out.cell (j := 3) rfl
    refine bodyPost_ret (v := .tuple #[.agg #[.int .i64 p.v.kind, .int .i64 p.v.num, .string p.v.text, (.slice sa ln sc)], .int .i64 0]) (by simp [results, Tryz.results23, go_sem, d0, d1, d2, d3]) rfl ?_
    exact HE.out _ HBF.out
end
end Go.Proofs.YtnplmembdfklcaaGreatDoor
namespace Go.Proofs.YtnplmembdfklcaaGreatDoor
set_option linter.unusedVariables false
set_option linter.unusedSimpArgs false
open Go.RowKit Go.Maps

/-- The keys of a package. -/
def rschema (l : List KeptT) (id : Int) : List ByteArray := l.foldl (fun o p => if p.id = id then putS o p.key else o) []
theorem rschema_step (l : List KeptT) (id : Int) {i : Nat} (hi : i < l.length) : rschema (l.take (i + 1)) id = if l[i].id = id then putS (rschema (l.take i) id) l[i].key else rschema (l.take i) id := by
  unfold rschema
  rw [List.take_succ_eq_append_getElem hi, List.foldl_append]
  rfl
theorem rschema_len (l : List KeptT) (id : Int) : ∀ i, (rschema (l.take i) id).length ≤ i
  | 0 => by simp [rschema]
  | i + 1 => by
    by_cases hi : i < l.length
    · rw [rschema_step l id hi]
      have ih := rschema_len l id i
      split
      · have := putS_length (rschema (l.take i) id) l[i].key
        omega
      · omega
    · have e : l.take (i + 1) = l.take i := by rw [List.take_of_length_le (by omega), List.take_of_length_le (by omega)]
      rw [e]
      have := rschema_len l id i
      omega
theorem rschema_rising (l : List KeptT) (id : Int) : ∀ i, RisingS (rschema (l.take i) id)
  | 0 => by simp [rschema]; exact RisingS.nil
  | i + 1 => by
    by_cases hi : i < l.length
    · rw [rschema_step l id hi]
      have ih := rschema_rising l id i
      split
      · exact putS_rising ih
      · exact ih
    · have e : l.take (i + 1) = l.take i := by rw [List.take_of_length_le (by omega), List.take_of_length_le (by omega)]
      rw [e]
      exact rschema_rising l id i

/-- What the document's Schema answers. -/
def RSchPost (l : List KeptT) (id : Int) (w : World) (e : Ending) (w' : World) : Prop := ∃ v, e = .returned v ∧ SliceS w' v (rschema l id) ∧ Below w.heap.size w w'
section
variable {w : World} {B : Nat} {role : Nat → Role} {M : Nat} {vL vK vN vD : Value} {rt : RefT}
set_option maxHeartbeats 2000000 in
set_option maxRecDepth 100000 in
theorem rschema_c (h : RefIn w B role M vL vK vN vD rt) (hB : B ≤ w.heap.size) (hsz : rt.l.length ≤ 4194304) (id : Int) : Calls Tryz.prog 29 #[.pointer (some ⟨M, 0, none⟩), .int .i64 id] w (RSchPost rt.l id w) := by
  obtain ⟨va, vc, hvL⟩ := ownsRow_slice h.l
  have HH := Lib.hid h
  obtain ⟨N, hN⟩ : ∃ N, rt.l.length = N := ⟨_, rfl⟩
  rw [hN] at hsz hvL
  have c1 := h.box.cell (j := 0) rfl
  rw [hvL] at c1
  have HN := Lib.hid hN
  have HvL := Lib.hid hvL
  have HE : Hid (∀ w' v, SliceS w' v (rschema (rt.l.take N) id) → Below w.heap.size w w' → RSchPost rt.l id w (.returned v) w') := fun w' v h1 h2 => by
    rw [← hN, List.take_length] at h1
    exact ⟨v, rfl, h1, h2⟩
  generalize RSchPost rt.l id w = Q at HE ⊢
  clear h hN hvL
  go_enter Tryz.func29, Tryz.ntmps29
  go_wp2_with fail
  go_loopw [5, 6] (fun v5 v6 wr => ∃ i a n c, v6 = .int .i64 (i : Nat) ∧ v5 = .slice a n c ∧ i ≤ N ∧ w.heap.size ≤ wr.heap.size ∧ Hid (CutS wr a n c (rschema (rt.l.take i) id)) ∧ Hid (Below w.heap.size w wr)) (fun _ v6 _ => N - (intOf v6).toNat)
  case atStart => exact ⟨0, none, 0, 0, rfl, rfl, Nat.zero_le _, Nat.le_refl _, ⟨by simp [rschema], .inl (by simp [rschema]), Nat.le_refl _, by decide⟩, Below.refl _ _⟩
  case round =>
    obtain ⟨i, a, n, c, rfl, rfl, hi, _, HC, HBL⟩ := hrel
    have HR := Lib.hid (HH.out.below hB HBL.out)
    have c2 := HR.out.box.cell (j := 0) rfl
    rw [HvL.out] at c2
    by_cases hlt : i < N
    · have hi1 : (i : Int) < (N : Int) := by omega
      have hil : i < rt.l.length := by have := HN.out; show i < rt.l.length; omega
      obtain ⟨g, cap, hg, hcells⟩ := HR.out.kept hil
      rw [HvL.out] at hg
      injection hg with hg1 _ hg3
      subst hg1 hg3
      have k0 : wr.cell? ⟨g, i * 6, none⟩ = some (.int .i64 rt.l[i].id) := hcells 0 (by omega)
      have k1 : wr.cell? ⟨g, i * 6 + 1, none⟩ = some (.string rt.l[i].key) := hcells 1 (by omega)
      have HST := Lib.hid (rschema_step rt.l id hil)
      have hnl := HC.out.len (rschema_len rt.l id i)
      clear hcells
      by_cases he : rt.l[i].id = id
      · have hq0 : (rt.l[i].id == id) = true := by simpa using he
        have HP := Lib.hid (putS_in HC.out rt.l[i].key (by omega))
        have HST2 : Hid (rschema (rt.l.take (i + 1)) id = putS (rschema (rt.l.take i) id) rt.l[i].key) := by have := HST.out; rw [if_pos he] at this; exact this
        clear he HST
        go_wp2_with (go_at_call 54; refine HP.out.mono ?_; rintro e w2 ⟨v2, rfl, ⟨a2, n2, c2', rfl, hs2⟩, hb2⟩)
        go_roundw
        case rel => exact ⟨i + 1, a2, n2, c2', by go_num, rfl, by omega, (below_tr HBL.out hb2).size, by rw [Hid, HST2.out]; exact hs2, below_tr HBL.out hb2⟩
        case measure => simp [intOf]; omega
      · have hq0 : (rt.l[i].id == id) = false := by simpa using he
        have HST2 : Hid (rschema (rt.l.take (i + 1)) id = rschema (rt.l.take i) id) := by have := HST.out; rw [if_neg he] at this; exact this
        clear he HST
        go_wp2_with fail
        go_roundw
        case rel => exact ⟨i + 1, a, n, c, by go_num, rfl, by omega, HBL.out.size, by rw [Hid, HST2.out]; exact HC.out, HBL.out⟩
        case measure => simp [intOf]; omega
    · have hi1 : ¬ (i : Int) < (N : Int) := by omega
      obtain rfl : i = N := by omega
      go_wp2_with fail
      exact HE.out _ _ ⟨_, _, _, rfl, HC.out⟩ HBL.out
end

/-- Nothing but the root. -/
def rt0 : RefT := ⟨[], [], [], [⟨#[47]⟩]⟩
set_option maxHeartbeats 1000000 in
set_option maxRecDepth 100000 in
/-- The document's New. -/
theorem rnew_c (B : Nat) (w : World) (hB : B ≤ w.heap.size) :
    Calls Tryz.prog 7 #[] w fun e w' => (∃ M, e = .returned (.pointer (some ⟨M, 0, none⟩)) ∧ ∃ role vD, RefIn w' B role M (.slice none 0 0) (.slice none 0 0) (.slice none 0 0) vD rt0 ∧ (∀ b, b < w.heap.size → role b = .free)) ∧ Below w.heap.size w w' := by
  obtain ⟨W1, e1⟩ : ∃ W1, w.alloc (.cells #[.string ⟨#[47]⟩] 9) = W1 := ⟨_, rfl⟩
  obtain ⟨W2, e2⟩ : ∃ W2, W1.alloc (.cells #[.slice none 0 0, .slice none 0 0, .slice none 0 0, .slice (some ⟨w.heap.size, 0, none⟩) 1 1] 39) = W2 := ⟨_, rfl⟩
  have hz1 : W1.heap.size = w.heap.size + 1 := by rw [← e1]; simp
  have hz2 : W2.heap.size = w.heap.size + 2 := by rw [← e2]; simp [hz1]
  have HF : Hid ((∃ role vD, RefIn W2 B role W1.heap.size (.slice none 0 0) (.slice none 0 0) (.slice none 0 0) vD rt0 ∧ (∀ b, b < w.heap.size → role b = .free)) ∧ Below w.heap.size w W2) := by
    have hb1 : Below w.heap.size w W1 := e1 ▸ below1 _ _
    have hb2 : Below W1.heap.size W1 W2 := e2 ▸ below1 _ _
    refine ⟨⟨fun b => if b = w.heap.size then .dirs else if b = w.heap.size + 1 then .box else .free, .slice (some ⟨w.heap.size, 0, none⟩) 1 1, ?_, fun b hb => by
      show (if _ then _ else _) = _
      rw [if_neg (by omega), if_neg (by omega)]⟩, below_tr hb1 hb2⟩
    refine ⟨?_, World.ownsRow_nil _ _ _ _, World.ownsRow_nil _ _ _ _, World.ownsRow_nil _ _ _ _, ?_, fun p hp => (by cases hp), ?_, fun g h => (by cases h), fun g h => (by cases h), fun g h => (by cases h), fun g h => (by cases h; exact if_pos rfl), fun b hb => ?_, fun b hb => ?_⟩
    · rw [← e2]; exact boxN_alloc W1 _ 39
    · refine ⟨rfl, .inr ⟨w.heap.size, 1, #[.string ⟨#[47]⟩], rfl, by omega, ?_, Nat.le_refl _, by decide, rfl, rfl⟩⟩
      rw [hb2.block _ (by omega), ← e1]
      exact alloc_at _ _
    · show (if _ then _ else _) = _
      rw [if_neg (by omega), if_pos hz1]
    · by_cases h1 : w.heap.size ≤ b
      · omega
      · exact absurd (by show (if _ then _ else _) = _; rw [if_neg (by omega), if_neg (by omega)]) hb
    · by_cases h1 : b < w.heap.size + 2
      · omega
      · exact absurd (by show (if _ then _ else _) = _; rw [if_neg (by omega), if_neg (by omega)]) hb
  have HZ := Lib.hid hz1
  clear hz2
  go_enter Tryz.func7, Tryz.ntmps7
  go_wp2_with fail
  go_ret
  obtain ⟨⟨role, vD, h1, h2⟩, h3⟩ := HF.out
  rw [HZ.out] at h1
  exact ⟨⟨_, rfl, role, vD, h1, h2⟩, h3⟩
end Go.Proofs.YtnplmembdfklcaaGreatDoor
namespace Go.Proofs.YtnplmembdfklcaaGreatDoor
set_option linter.unusedVariables false
set_option linter.unusedSimpArgs false
open Go.RowKit Go.Maps

theorem ownsRow_put {w : World} {B : Nat} {e : TypeId} {k n g cap : Nat} {xs : List Value} (h : w.ownsRow B e k (.slice (some ⟨g, 0, none⟩) n cap) n xs) (o : Nat) (x : Value) : (w.setCell ⟨g, o, none⟩ x).ownsRow B e k (.slice (some ⟨g, 0, none⟩) n cap) n (xs.set o x) := by
  refine ⟨by rw [List.length_set]; exact h.1, ?_⟩
  rcases h.2 with ⟨h1, _⟩ | ⟨g', cap', cur, hv, hb, hg, h1, h2, h3, h4⟩
  · cases h1
  · injection hv with e1 _ e3
    injection e1 with e1
    injection e1 with e1 _ _
    subst e1 e3
    refine .inr ⟨_, _, _, rfl, hb, set_cells hg x, h1, h2, by simpa using h3, ?_⟩
    rw [← h4]
    simp [List.take_set]
theorem kept_put : ∀ (l : List KeptT) (i : Nat) (hi : i < l.length) (v : ValT) (sl : Value), ((((l.flatMap keptCells).set (i * 6 + 2) (.int .i64 v.kind)).set (i * 6 + 3) (.int .i64 v.num)).set (i * 6 + 4) (.string v.text)).set (i * 6 + 5) sl = (l.set i { l[i] with v := v, sl := sl }).flatMap keptCells
  | a :: l, 0, hi, v, sl => rfl
  | a :: l, i + 1, hi, v, sl => by
    have ih := kept_put l i (by simpa using hi) v sl
    have e : ∀ j, (i + 1) * 6 + j = i * 6 + j + 6 := fun j => by omega
    rw [e, e, e, e]
    show keptCells a ++ ((((l.flatMap keptCells).set (i * 6 + 2) (.int .i64 v.kind)).set (i * 6 + 3) (.int .i64 v.num)).set (i * 6 + 4) (.string v.text)).set (i * 6 + 5) sl = keptCells a ++ (l.set i { l[i]'(by simpa using hi) with v := v, sl := sl }).flatMap keptCells
    rw [ih]
theorem info70 : (Tryz.prog.info? 70).map (fun i => (i.zero, i.size, i.bytes)) = some (some (.agg #[.int .i64 0, .string ⟨#[]⟩, .int .i64 0, .int .i64 0, .string ⟨#[]⟩, .slice none 0 0]), 6, 80) := by kernel_rfl

section
variable {w w' : World} {B : Nat} {role role' : Nat → Role} {M : Nat} {vL vK vN vD : Value} {rt : RefT} {T : Role → Prop}
theorem RefIn.row_chg (h : RefIn w B role M vL vK vN vD rt) {R : Role} (hRf : R ≠ .free) (hRb : R ≠ .box) {vX : Value} (hv : ∀ b, vX.ownBlock = some b → role b = R) {w1 : World} {g : Nat} (hgrow : w.grownBy w1 vX.ownBlock) (hat : vX.ownBlock = some g ∨ w.heap.size ≤ g) (hlt : g < w1.heap.size) (j : Nat) (V : Value) :
    Step (fun r => r = R ∨ r = .box) role w (fun b => if b = g then R else role b) (w1.setCell ⟨M, j, none⟩ V) ∧ BoxN (w1.setCell ⟨M, j, none⟩ V) M ([vL, vK, vN, vD].set j V) 39 ∧ (fun b => if b = g then R else role b) M = .box ∧ (w1.setCell ⟨M, j, none⟩ V).heap[g]? = w1.heap[g]? := by
  have s1 := Step.of_row h.hi (R := R) hRf hv hgrow hat hlt
  have s2 := Step.of_set s1.inn M j V
  have r1 := (h.blk s1 h.rM (by simp) (fun e => hRb e.symm)).2
  have hMg : M ≠ g := fun e => by
    subst e
    have : (if M = M then R else role M) = .box := r1
    rw [if_pos rfl] at this
    exact hRb this
  have hbx : BoxN w1 M [vL, vK, vN, vD] 39 := h.box.to (h.blk s1 h.rM (by simp) (fun e => hRb e.symm)).1
  exact ⟨(s1.trans s2).mono (by rintro r (e | e); exact .inl e; exact .inr (e.trans r1)), hbx.set j V, r1, set_other _ (Ne.symm hMg)⟩

theorem RefIn.key_step (h : RefIn w B role M vL vK vN vD rt) (hB : B ≤ w.heap.size) {key : ByteArray} {w1 : World} {g cap : Nat} (hown : w1.ownsRow B 9 1 (.slice (some ⟨g, 0, none⟩) (rt.keys.length + 1) cap) (rt.keys.length + 1) (rt.keys.map .string ++ [.string key]))
    (hgrow : w.grownBy w1 vK.ownBlock) (hat : vK.ownBlock = some g ∨ w.heap.size ≤ g) (hlt : g < w1.heap.size) :
    ∃ role', Step (fun r => r = .keys ∨ r = .box) role w role' (w1.setCell ⟨M, 1, none⟩ (.slice (some ⟨g, 0, none⟩) (rt.keys.length + 1) cap)) ∧ RefIn (w1.setCell ⟨M, 1, none⟩ (.slice (some ⟨g, 0, none⟩) (rt.keys.length + 1) cap)) B role' M vL (.slice (some ⟨g, 0, none⟩) (rt.keys.length + 1) cap) vN vD { rt with keys := rt.keys ++ [key] } := by
  obtain ⟨hs, hbx, hM, hg⟩ := h.row_chg (R := .keys) (by simp) (by simp) h.rK hgrow hat hlt 1 (.slice (some ⟨g, 0, none⟩) (rt.keys.length + 1) cap)
  refine ⟨_, hs, hbx, ownsRow_to h.l fun b hb => (h.blk hs (h.rL b hb) (by simp) (by simp)).1, ?_, ownsRow_to h.kinds fun b hb => (h.blk hs (h.rN b hb) (by simp) (by simp)).1, ownsRow_to h.dirs fun b hb => (h.blk hs (h.rD b hb) (by simp) (by simp)).1, fun p hp => h.cont_to hs (by simp) (h.cont p hp), hM, fun b hb => (h.blk hs (h.rL b hb) (by simp) (by simp)).2, fun b hb => ?_, fun b hb => (h.blk hs (h.rN b hb) (by simp) (by simp)).2, fun b hb => (h.blk hs (h.rD b hb) (by simp) (by simp)).2, hs.lo (h := h.lo) hB, hs.inn⟩
  · show World.ownsRow _ B 9 1 _ (rt.keys ++ [key]).length ((rt.keys ++ [key]).map .string)
    rw [List.length_append, List.length_singleton, List.map_append]
    exact ownsRow_to hown fun b hb => by cases hb; exact hg
  · cases hb
    exact if_pos rfl

theorem RefIn.kind_step (h : RefIn w B role M vL vK vN vD rt) (hB : B ≤ w.heap.size) {kd : Int} {w1 : World} {g cap : Nat} (hown : w1.ownsRow B 3 1 (.slice (some ⟨g, 0, none⟩) (rt.kinds.length + 1) cap) (rt.kinds.length + 1) (rt.kinds.map (.int .i64) ++ [.int .i64 kd]))
    (hgrow : w.grownBy w1 vN.ownBlock) (hat : vN.ownBlock = some g ∨ w.heap.size ≤ g) (hlt : g < w1.heap.size) :
    ∃ role', Step (fun r => r = .kinds ∨ r = .box) role w role' (w1.setCell ⟨M, 2, none⟩ (.slice (some ⟨g, 0, none⟩) (rt.kinds.length + 1) cap)) ∧ RefIn (w1.setCell ⟨M, 2, none⟩ (.slice (some ⟨g, 0, none⟩) (rt.kinds.length + 1) cap)) B role' M vL vK (.slice (some ⟨g, 0, none⟩) (rt.kinds.length + 1) cap) vD { rt with kinds := rt.kinds ++ [kd] } := by
  obtain ⟨hs, hbx, hM, hg⟩ := h.row_chg (R := .kinds) (by simp) (by simp) h.rN hgrow hat hlt 2 (.slice (some ⟨g, 0, none⟩) (rt.kinds.length + 1) cap)
  refine ⟨_, hs, hbx, ownsRow_to h.l fun b hb => (h.blk hs (h.rL b hb) (by simp) (by simp)).1, ownsRow_to h.keys fun b hb => (h.blk hs (h.rK b hb) (by simp) (by simp)).1, ?_, ownsRow_to h.dirs fun b hb => (h.blk hs (h.rD b hb) (by simp) (by simp)).1, fun p hp => h.cont_to hs (by simp) (h.cont p hp), hM, fun b hb => (h.blk hs (h.rL b hb) (by simp) (by simp)).2, fun b hb => (h.blk hs (h.rK b hb) (by simp) (by simp)).2, fun b hb => ?_, fun b hb => (h.blk hs (h.rD b hb) (by simp) (by simp)).2, hs.lo (h := h.lo) hB, hs.inn⟩
  · show World.ownsRow _ B 3 1 _ (rt.kinds ++ [kd]).length ((rt.kinds ++ [kd]).map (.int .i64))
    rw [List.length_append, List.length_singleton, List.map_append]
    exact ownsRow_to hown fun b hb => by cases hb; exact hg
  · cases hb
    exact if_pos rfl

/-- The row of values is told anew, of the same blocks or of a new one. -/
theorem RefIn.l_step (h : RefIn w B role M vL vK vN vD rt) (hB : B ≤ w.heap.size) {l' : List KeptT} {w1 : World} {g cap n : Nat} (hn : n = l'.length) (hown : w1.ownsRow B 70 6 (.slice (some ⟨g, 0, none⟩) n cap) n (l'.flatMap keptCells))
    (hgrow : w.grownBy w1 vL.ownBlock) (hat : vL.ownBlock = some g ∨ w.heap.size ≤ g) (hlt : g < w1.heap.size) (hcont : ∀ p ∈ l', StrsV w (fun b => role b = .content) p.v.list p.sl) :
    ∃ role', Step (fun r => r = .values ∨ r = .box) role w role' (w1.setCell ⟨M, 0, none⟩ (.slice (some ⟨g, 0, none⟩) n cap)) ∧ RefIn (w1.setCell ⟨M, 0, none⟩ (.slice (some ⟨g, 0, none⟩) n cap)) B role' M (.slice (some ⟨g, 0, none⟩) n cap) vK vN vD { rt with l := l' } := by
  subst hn
  obtain ⟨hs, hbx, hM, hg⟩ := h.row_chg (R := .values) (by simp) (by simp) h.rL hgrow hat hlt 0 (.slice (some ⟨g, 0, none⟩) l'.length cap)
  refine ⟨_, hs, hbx, ownsRow_to hown fun b hb => (by cases hb; exact hg), ownsRow_to h.keys fun b hb => (h.blk hs (h.rK b hb) (by simp) (by simp)).1, ownsRow_to h.kinds fun b hb => (h.blk hs (h.rN b hb) (by simp) (by simp)).1, ownsRow_to h.dirs fun b hb => (h.blk hs (h.rD b hb) (by simp) (by simp)).1, fun p hp => h.cont_to hs (by simp) (hcont p hp), hM, fun b hb => (by cases hb; exact if_pos rfl), fun b hb => (h.blk hs (h.rK b hb) (by simp) (by simp)).2, fun b hb => (h.blk hs (h.rN b hb) (by simp) (by simp)).2, fun b hb => (h.blk hs (h.rD b hb) (by simp) (by simp)).2, hs.lo (h := h.lo) hB, hs.inn⟩

/-- A value is put over another. -/
theorem RefIn.put_step (h : RefIn w B role M vL vK vN vD rt) (hB : B ≤ w.heap.size) {i g n cap : Nat} (hi : i < rt.l.length) (hv : vL = .slice (some ⟨g, 0, none⟩) n cap) {v : ValT} {sl : Value} (hcont : StrsV w (fun b => role b = .content) v.list sl) :
    Step (fun r => r = .values) role w role ((((w.setCell ⟨g, i * 6 + 2, none⟩ (.int .i64 v.kind)).setCell ⟨g, i * 6 + 3, none⟩ (.int .i64 v.num)).setCell ⟨g, i * 6 + 4, none⟩ (.string v.text)).setCell ⟨g, i * 6 + 5, none⟩ sl) ∧
      RefIn ((((w.setCell ⟨g, i * 6 + 2, none⟩ (.int .i64 v.kind)).setCell ⟨g, i * 6 + 3, none⟩ (.int .i64 v.num)).setCell ⟨g, i * 6 + 4, none⟩ (.string v.text)).setCell ⟨g, i * 6 + 5, none⟩ sl) B role M vL vK vN vD { rt with l := rt.l.set i { rt.l[i] with v := v, sl := sl } } := by
  subst hv
  have hr : role g = .values := h.rL g rfl
  have s1 := Step.of_set h.hi g (i * 6 + 2) (.int .i64 v.kind)
  have s2 := Step.of_set s1.inn g (i * 6 + 3) (.int .i64 v.num)
  have s3 := Step.of_set s2.inn g (i * 6 + 4) (.string v.text)
  have s4 := Step.of_set s3.inn g (i * 6 + 5) sl
  have hs := (((s1.trans s2).trans s3).trans s4).mono (T2 := fun r => r = .values) (by rintro r (((e | e) | e) | e) <;> exact e.trans hr)
  have h0 : w.ownsRow B 70 6 (.slice (some ⟨g, 0, none⟩) n cap) n (rt.l.flatMap keptCells) := by
    have h1 := h.l
    obtain ⟨_, _, e⟩ := ownsRow_slice h1
    injection e with _ e2 _
    rw [← e2] at h1
    exact h1
  have hrow := ownsRow_put (ownsRow_put (ownsRow_put (ownsRow_put h0 (i * 6 + 2) (.int .i64 v.kind)) (i * 6 + 3) (.int .i64 v.num)) (i * 6 + 4) (.string v.text)) (i * 6 + 5) sl
  rw [kept_put rt.l i hi] at hrow
  refine ⟨hs, h.box.to (h.blk hs h.rM (by simp) (by simp)).1, ?_, ownsRow_to h.keys fun b hb => (h.blk hs (h.rK b hb) (by simp) (by simp)).1, ownsRow_to h.kinds fun b hb => (h.blk hs (h.rN b hb) (by simp) (by simp)).1, ownsRow_to h.dirs fun b hb => (h.blk hs (h.rD b hb) (by simp) (by simp)).1, fun p hp => ?_, h.rM, h.rL, h.rK, h.rN, h.rD, h.lo, hs.inn⟩
  · show World.ownsRow _ B 70 6 _ (rt.l.set i _).length _
    rw [List.length_set]
    have h2 := ownsRow_slice h.l
    obtain ⟨_, _, e⟩ := h2
    injection e with _ e2 _
    rw [← e2]
    exact hrow
  · rcases List.mem_or_eq_of_mem_set hp with h1 | h1
    · exact h.cont_to hs (by simp) (h.cont p h1)
    · rw [h1]
      exact h.cont_to hs (by simp) hcont
/-- A free block is written. -/
theorem RefIn.set_free (h : RefIn w B role M vL vK vN vD rt) {b : Nat} (hb : role b = .free) (o : Nat) (x : Value) : RefIn (w.setCell ⟨b, o, none⟩ x) B role M vL vK vN vD rt := by
  have hk : ∀ c R, role c = R → R ≠ .free → (w.setCell ⟨b, o, none⟩ x).heap[c]? = w.heap[c]? := fun c R hc hR => set_other _ (fun e => by subst e; exact hR (hc.symm.trans hb))
  exact ⟨h.box.to (hk _ _ h.rM (by simp)), ownsRow_to h.l fun g hg => hk _ _ (h.rL g hg) (by simp), ownsRow_to h.keys fun g hg => hk _ _ (h.rK g hg) (by simp), ownsRow_to h.kinds fun g hg => hk _ _ (h.rN g hg) (by simp), ownsRow_to h.dirs fun g hg => hk _ _ (h.rD g hg) (by simp), fun p hp => (h.cont p hp).keep (fun _ h => h) (fun c hc _ => hk c _ hc (by simp)), h.rM, h.rL, h.rK, h.rN, h.rD, h.lo, fun c hc => by rw [set_size]; exact h.hi c hc⟩
end
end Go.Proofs.YtnplmembdfklcaaGreatDoor
