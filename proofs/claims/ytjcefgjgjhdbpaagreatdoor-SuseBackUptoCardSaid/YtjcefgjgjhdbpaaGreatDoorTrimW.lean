/-
  The document's Trim. Helper text; the conditions are those typed.
-/
import Derived.Test.YtjcefgjgjhdbpaaGreatDoorStrA
import Derived.Test.YtjcefgjgjhdbpaaGreatDoorDepNum
namespace Go.Proofs.YtjcefgjgjhdbpaaGreatDoor
set_option linter.unusedVariables false
set_option linter.unusedSimpArgs false
open Go.RowKit Go.Maps

def strSize : Value → Nat
  | .string s => s.size
  | _ => 0
/-- Without layout behind. -/
def dropR (l : Wd) : Wd := (l.reverse.dropWhile layB).reverse
theorem dropW_app (p : UInt8 → Bool) : ∀ a b : Wd, (a ++ b).dropWhile p = if a.dropWhile p = [] then b.dropWhile p else a.dropWhile p ++ b
  | [], b => rfl
  | c :: a, b => by
    rw [List.cons_append, List.dropWhile_cons, List.dropWhile_cons]
    by_cases h : p c = true
    · rw [if_pos h, if_pos h]
      exact dropW_app p a b
    · rw [if_neg h, if_neg h, if_neg (by simp)]
      rfl
theorem dropR_snoc (l : Wd) (c : UInt8) : dropR (l ++ [c]) = if layB c = true then dropR l else l ++ [c] := by
  unfold dropR
  rw [List.reverse_append, List.reverse_singleton, List.singleton_append, List.dropWhile_cons]
  by_cases h : layB c = true
  · rw [if_pos h, if_pos h]
  · rw [if_neg h, if_neg h]
    simp
theorem dropR_cons (c : UInt8) (l : Wd) : dropR (c :: l) = if dropR l = [] then (if layB c = true then [] else [c]) else c :: dropR l := by
  unfold dropR
  rw [List.reverse_cons, dropW_app]
  by_cases h : l.reverse.dropWhile layB = []
  · rw [if_pos h, if_pos (by rw [h]; rfl), List.dropWhile_cons, List.dropWhile_nil]
    by_cases hc : layB c = true
    · rw [if_pos hc]; rfl
    · rw [if_neg hc]; rfl
  · rw [if_neg h, if_neg (by simpa using h), List.reverse_append]
    rfl
/-- Ahead and behind, in either order. -/
theorem drop_both : ∀ l : Wd, dropR (l.dropWhile layB) = trimT l
  | [] => rfl
  | c :: l => by
    have ih := drop_both l
    have e : trimT l = (dropR l).dropWhile layB := rfl
    have e2 : trimT (c :: l) = (dropR (c :: l)).dropWhile layB := rfl
    rw [e2, dropR_cons, List.dropWhile_cons]
    by_cases hc : layB c = true
    · rw [if_pos hc, ih, e]
      by_cases hl : dropR l = []
      · rw [if_pos hl, if_pos hc, hl]
      · rw [if_neg hl, List.dropWhile_cons, if_pos hc]
    · rw [if_neg hc, dropR_cons]
      by_cases hl : dropR l = []
      · rw [if_pos hl, if_neg hc, List.dropWhile_cons, if_neg hc]
      · rw [if_neg hl, List.dropWhile_cons, if_neg hc]
theorem lay_iff {c : UInt8} : layB c = true ↔ c = 32 ∨ c = 9 := by
  unfold layB
  simp
theorem dropW_go {s : ByteArray} (h : 0 < s.size) (hc : layB (s[0]'h) = true) : (bs s).dropWhile layB = ((bs s).drop 1).dropWhile layB := by
  have h3 : 0 < (bs s).length := by rw [bs_length]; exact h
  have e : bs s = s[0] :: (bs s).drop 1 := by
    have := List.drop_eq_getElem_cons h3
    rw [List.drop_zero] at this
    exact this
  rw [e, List.dropWhile_cons, if_pos hc]
  rfl
theorem dropW_stop {s : ByteArray} (h : 0 < s.size) (hc : layB (s[0]'h) = false) : (bs s).dropWhile layB = bs s := by
  have h3 : 0 < (bs s).length := by rw [bs_length]; exact h
  have e : bs s = s[0] :: (bs s).drop 1 := by
    have := List.drop_eq_getElem_cons h3
    rw [List.drop_zero] at this
    exact this
  rw [e, List.dropWhile_cons, if_neg (by rw [hc]; decide)]
theorem snoc_of {s : ByteArray} {k : Nat} (hk : s.size = k + 1) : bs s = (bs s).take k ++ [s[k]'(by omega)] := by
  have h3 : k < (bs s).length := by rw [bs_length]; omega
  have h4 := List.take_append_drop k (bs s)
  have h5 := List.drop_eq_getElem_cons h3
  have h6 : (bs s).drop (k + 1) = [] := List.drop_eq_nil_of_le (by rw [bs_length]; omega)
  rw [h6] at h5
  rw [h5] at h4
  exact h4.symm
theorem dropR_go {s : ByteArray} {k : Nat} (hk : s.size = k + 1) (hc : layB (s[k]'(by omega)) = true) : dropR (bs s) = dropR ((bs s).take k) := by
  have e := snoc_of hk
  rw [e, dropR_snoc, if_pos hc]
  rw [← e]
theorem dropR_stop {s : ByteArray} {k : Nat} (hk : s.size = k + 1) (hc : layB (s[k]'(by omega)) = false) : dropR (bs s) = bs s := by
  have e := snoc_of hk
  rw [e, dropR_snoc, if_neg (by rw [hc]; decide)]
theorem bs_zero0 {s : ByteArray} (h : ¬ 0 < s.size) : bs s = [] := List.length_eq_zero_iff.1 (by rw [bs_length]; omega)
set_option maxHeartbeats 4000000 in
set_option maxRecDepth 100000 in
theorem rtrim_c (s : ByteArray) (hs : s.size ≤ maxLen) (w : World) : Calls Tryz.prog 22 #[.string s] w fun e w' => e = .returned (.string (mkB (trimT (bs s)))) ∧ w' = w := by
  have hm : maxLen = 9223372036854775807 := rfl
  rw [hm] at hs
  rw [← drop_both]
  obtain ⟨L, hL⟩ : ∃ L, (bs s).dropWhile layB = L := ⟨_, rfl⟩
  rw [hL]
  have HL := Lib.hid hL
  clear hL hm
  go_enter Tryz.func22, Tryz.ntmps22
  go_wp2_with fail
  go_loopw [0] (fun v0 wr => ∃ t : ByteArray, v0 = .string t ∧ t.size ≤ 9223372036854775807 ∧ w = wr ∧ Hid ((bs t).dropWhile layB = L)) (fun v0 _ => strSize v0)
  case atStart => exact ⟨s, rfl, hs, rfl, HL.out⟩
  case round =>
    clear HL hs
    obtain ⟨t, rfl, ht, rfl, HT⟩ := hrel
    by_cases h0 : 0 < t.size
    · have hi1 : (0 : Int) < (t.size : Int) := by omega
      by_cases hc : layB (t[0]'h0) = true
      · have HN : Hid ((bs (t.extract 1 t.size)).dropWhile layB = L) := Lib.hid (by rw [bs_tail, ← HT.out, dropW_go h0 hc])
        have hsz : (t.extract 1 t.size).size = t.size - 1 := by rw [ByteArray.size_extract]; omega
        rcases lay_iff.1 hc with h32 | h9
        · have q1 : ((t[0].toNat : Int) == 32) = true := by rw [h32]; rfl
          clear hc h32
          go_wp2_with fail
          go_roundw
          case rel => exact ⟨_, rfl, by omega, trivial, HN.out⟩
          case measure => simp only [strSize]; omega
        · have q1 : ((t[0].toNat : Int) == 32) = false := by rw [h9]; rfl
          have q2 : ((t[0].toNat : Int) == 9) = true := by rw [h9]; rfl
          clear hc h9
          go_wp2_with fail
          go_roundw
          case rel => exact ⟨_, rfl, by omega, trivial, HN.out⟩
          case measure => simp only [strSize]; omega
      · have hc' : layB (t[0]'h0) = false := by simpa using hc
        have hbt : bs t = L := by rw [← HT.out, dropW_stop h0 hc']
        have q1 : ((t[0].toNat : Int) == 32) = false := u8b (fun e => hc (lay_iff.2 (.inl e)))
        have q2 : ((t[0].toNat : Int) == 9) = false := u8b (fun e => hc (lay_iff.2 (.inr e)))
        have HBT := Lib.hid hbt
        clear hc hc' hbt HT
        go_wp2_with fail
        go_loopw [0] (fun v0 wr => ∃ t : ByteArray, v0 = .string t ∧ t.size ≤ 9223372036854775807 ∧ w = wr ∧ Hid (dropR (bs t) = dropR L)) (fun v0 _ => strSize v0)
        case atStart => exact ⟨t, rfl, ht, rfl, Lib.hid (by rw [HBT.out])⟩
        case round =>
          clear HBT
          obtain ⟨r, rfl, hr, rfl, HT⟩ := hrel
          by_cases h0 : 0 < r.size
          · obtain ⟨k, hk⟩ : ∃ k, r.size = k + 1 := ⟨r.size - 1, by omega⟩
            have hi1 : (0 : Int) < (r.size : Int) := by omega
            have hkl : k < r.size := by omega
            have g1 : IntKind.i64.wrap ((r.size : Int) - 1) = (k : Int) := by rw [IntKind.wrap_i64]; omega
            have g2 : ((k : Int)).toNat = k := by omega
            have g3 : (r.size : Int) - 1 = (k : Int) := by omega
            have g4 : r.size - 1 = k := by omega
            have g5 : (k : Int) < (r.size : Int) := by omega
            have g6 : ¬ (k : Int) < 0 := by omega
            have g7 : (0 : Int) ≤ (k : Int) := by omega
            have g8 : (k : Int) ≤ (r.size : Int) := by omega
            have g9 : k ≤ r.size := by omega
            by_cases hc : layB (r[k]'hkl) = true
            · have HN : Hid (dropR (bs (r.extract 0 k)) = dropR L) := Lib.hid (by rw [bs_head, ← HT.out, dropR_go hk hc])
              have hsz : (r.extract 0 k).size = k := by rw [ByteArray.size_extract]; omega
              rcases lay_iff.1 hc with h32 | h9
              · have q1 : ((r[k].toNat : Int) == 32) = true := by rw [h32]; rfl
                clear hc h32
                go_wp2_with fail
                go_roundw
                case rel => exact ⟨_, rfl, by omega, trivial, HN.out⟩
                case measure => simp only [strSize]; omega
              · have q1 : ((r[k].toNat : Int) == 32) = false := by rw [h9]; rfl
                have q2 : ((r[k].toNat : Int) == 9) = true := by rw [h9]; rfl
                clear hc h9
                go_wp2_with fail
                go_roundw
                case rel => exact ⟨_, rfl, by omega, trivial, HN.out⟩
                case measure => simp only [strSize]; omega
            · have hc' : layB (r[k]'hkl) = false := by simpa using hc
              have q1 : ((r[k].toNat : Int) == 32) = false := u8b (fun e => hc (lay_iff.2 (.inl e)))
              have q2 : ((r[k].toNat : Int) == 9) = false := u8b (fun e => hc (lay_iff.2 (.inr e)))
              have HBR : Hid (mkB (dropR L) = r) := Lib.hid (by rw [← HT.out, dropR_stop hk hc', mkB_bs])
              clear hc hc' HT
              go_wp2_with fail
              go_ret
              exact ⟨by rw [HBR.out]; rfl, rfl⟩
          · have hi1 : ¬ (0 : Int) < (r.size : Int) := by omega
            have HBR : Hid (mkB (dropR L) = r) := Lib.hid (by rw [← HT.out, bs_zero0 h0, ← mkB_bs r, bs_zero0 h0]; rfl)
            clear HT
            go_wp2_with fail
            go_ret
            exact ⟨by rw [HBR.out]; rfl, rfl⟩
    · have hi1 : ¬ (0 : Int) < (t.size : Int) := by omega
      have HBT : Hid (bs t = L) := Lib.hid (by rw [← HT.out, bs_zero0 h0]; rfl)
      clear HT
      go_wp2_with fail
      go_loopw [0] (fun v0 wr => ∃ t : ByteArray, v0 = .string t ∧ t.size ≤ 9223372036854775807 ∧ w = wr ∧ Hid (dropR (bs t) = dropR L)) (fun v0 _ => strSize v0)
      case atStart => exact ⟨t, rfl, ht, rfl, Lib.hid (by rw [HBT.out])⟩
      case round =>
        clear HBT
        obtain ⟨r, rfl, hr, rfl, HT⟩ := hrel
        by_cases h0 : 0 < r.size
        · obtain ⟨k, hk⟩ : ∃ k, r.size = k + 1 := ⟨r.size - 1, by omega⟩
          have hi1 : (0 : Int) < (r.size : Int) := by omega
          have hkl : k < r.size := by omega
          have g1 : IntKind.i64.wrap ((r.size : Int) - 1) = (k : Int) := by rw [IntKind.wrap_i64]; omega
          have g2 : ((k : Int)).toNat = k := by omega
          have g3 : (r.size : Int) - 1 = (k : Int) := by omega
          have g4 : r.size - 1 = k := by omega
          have g5 : (k : Int) < (r.size : Int) := by omega
          have g6 : ¬ (k : Int) < 0 := by omega
          have g7 : (0 : Int) ≤ (k : Int) := by omega
          have g8 : (k : Int) ≤ (r.size : Int) := by omega
          have g9 : k ≤ r.size := by omega
          by_cases hc : layB (r[k]'hkl) = true
          · have HN : Hid (dropR (bs (r.extract 0 k)) = dropR L) := Lib.hid (by rw [bs_head, ← HT.out, dropR_go hk hc])
            have hsz : (r.extract 0 k).size = k := by rw [ByteArray.size_extract]; omega
            rcases lay_iff.1 hc with h32 | h9
            · have q1 : ((r[k].toNat : Int) == 32) = true := by rw [h32]; rfl
              clear hc h32
              go_wp2_with fail
              go_roundw
              case rel => exact ⟨_, rfl, by omega, trivial, HN.out⟩
              case measure => simp only [strSize]; omega
            · have q1 : ((r[k].toNat : Int) == 32) = false := by rw [h9]; rfl
              have q2 : ((r[k].toNat : Int) == 9) = true := by rw [h9]; rfl
              clear hc h9
              go_wp2_with fail
              go_roundw
              case rel => exact ⟨_, rfl, by omega, trivial, HN.out⟩
              case measure => simp only [strSize]; omega
          · have hc' : layB (r[k]'hkl) = false := by simpa using hc
            have q1 : ((r[k].toNat : Int) == 32) = false := u8b (fun e => hc (lay_iff.2 (.inl e)))
            have q2 : ((r[k].toNat : Int) == 9) = false := u8b (fun e => hc (lay_iff.2 (.inr e)))
            have HBR : Hid (mkB (dropR L) = r) := Lib.hid (by rw [← HT.out, dropR_stop hk hc', mkB_bs])
            clear hc hc' HT
            go_wp2_with fail
            go_ret
            exact ⟨by rw [HBR.out]; rfl, rfl⟩
        · have hi1 : ¬ (0 : Int) < (r.size : Int) := by omega
          have HBR : Hid (mkB (dropR L) = r) := Lib.hid (by rw [← HT.out, bs_zero0 h0, ← mkB_bs r, bs_zero0 h0]; rfl)
          clear HT
          go_wp2_with fail
          go_ret
          exact ⟨by rw [HBR.out]; rfl, rfl⟩
end Go.Proofs.YtjcefgjgjhdbpaaGreatDoor
