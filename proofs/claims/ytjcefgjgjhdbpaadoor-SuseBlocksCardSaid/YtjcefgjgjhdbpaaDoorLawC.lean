/-
  The document's Trim. Helper text; the conditions are those typed.
  Values in a block, and one by one: the walk. Helper text; the conditions are those typed.
-/
import Derived.Test.YtjcefgjgjhdbpaaDoorStrA
import Derived.Test.YtjcefgjgjhdbpaaDoorSuseBlk
import Derived.Test.YtjcefgjgjhdbpaaDoorLawB
namespace Go.Proofs.YtjcefgjgjhdbpaaDoor
set_option linter.unusedVariables false
set_option linter.unusedSimpArgs false
open Go.RowKit Go.Maps

def strSize : Value → Nat
  | .string s => s.size
  | _ => 0
/-- Without layout behind. -/
def dropR (l : Wd) : Wd := (l.reverse.dropWhile layB).reverse
theorem dropW_app (p : UInt8 → Bool) : ∀ a b : Wd, (a ++ b).dropWhile p = if a.dropWhile p = [] then b.dropWhile p else a.dropWhile p ++ b
  | [], b => rfl
  | c :: a, b => by
    rw [List.cons_append, List.dropWhile_cons, List.dropWhile_cons]
    by_cases h : p c = true
    · rw [if_pos h, if_pos h]
      exact dropW_app p a b
    · rw [if_neg h, if_neg h, if_neg (by simp)]
      rfl
theorem dropR_snoc (l : Wd) (c : UInt8) : dropR (l ++ [c]) = if layB c = true then dropR l else l ++ [c] := by
  unfold dropR
  rw [List.reverse_append, List.reverse_singleton, List.singleton_append, List.dropWhile_cons]
  by_cases h : layB c = true
  · rw [if_pos h, if_pos h]
  · rw [if_neg h, if_neg h]
    simp
theorem dropR_cons (c : UInt8) (l : Wd) : dropR (c :: l) = if dropR l = [] then (if layB c = true then [] else [c]) else c :: dropR l := by
  unfold dropR
  rw [List.reverse_cons, dropW_app]
  by_cases h : l.reverse.dropWhile layB = []
  · rw [if_pos h, if_pos (by rw [h]; rfl), List.dropWhile_cons, List.dropWhile_nil]
    by_cases hc : layB c = true
    · rw [if_pos hc]; rfl
    · rw [if_neg hc]; rfl
  · rw [if_neg h, if_neg (by simpa using h), List.reverse_append]
    rfl
/-- Ahead and behind, in either order. -/
theorem drop_both : ∀ l : Wd, dropR (l.dropWhile layB) = trimT l
  | [] => rfl
  | c :: l => by
    have ih := drop_both l
    have e : trimT l = (dropR l).dropWhile layB := rfl
    have e2 : trimT (c :: l) = (dropR (c :: l)).dropWhile layB := rfl
    rw [e2, dropR_cons, List.dropWhile_cons]
    by_cases hc : layB c = true
    · rw [if_pos hc, ih, e]
      by_cases hl : dropR l = []
      · rw [if_pos hl, if_pos hc, hl]
      · rw [if_neg hl, List.dropWhile_cons, if_pos hc]
    · rw [if_neg hc, dropR_cons]
      by_cases hl : dropR l = []
      · rw [if_pos hl, if_neg hc, List.dropWhile_cons, if_neg hc]
      · rw [if_neg hl, List.dropWhile_cons, if_neg hc]
theorem lay_iff {c : UInt8} : layB c = true ↔ c = 32 ∨ c = 9 := by
  unfold layB
  simp
theorem dropW_go {s : ByteArray} (h : 0 < s.size) (hc : layB (s[0]'h) = true) : (bs s).dropWhile layB = ((bs s).drop 1).dropWhile layB := by
  have h3 : 0 < (bs s).length := by rw [bs_length]; exact h
  have e : bs s = s[0] :: (bs s).drop 1 := by
    have := List.drop_eq_getElem_cons h3
    rw [List.drop_zero] at this
    exact this
  rw [e, List.dropWhile_cons, if_pos hc]
  rfl
theorem dropW_stop {s : ByteArray} (h : 0 < s.size) (hc : layB (s[0]'h) = false) : (bs s).dropWhile layB = bs s := by
  have h3 : 0 < (bs s).length := by rw [bs_length]; exact h
  have e : bs s = s[0] :: (bs s).drop 1 := by
    have := List.drop_eq_getElem_cons h3
    rw [List.drop_zero] at this
    exact this
  rw [e, List.dropWhile_cons, if_neg (by rw [hc]; decide)]
theorem snoc_of {s : ByteArray} {k : Nat} (hk : s.size = k + 1) : bs s = (bs s).take k ++ [s[k]'(by omega)] := by
  have h3 : k < (bs s).length := by rw [bs_length]; omega
  have h4 := List.take_append_drop k (bs s)
  have h5 := List.drop_eq_getElem_cons h3
  have h6 : (bs s).drop (k + 1) = [] := List.drop_eq_nil_of_le (by rw [bs_length]; omega)
  rw [h6] at h5
  rw [h5] at h4
  exact h4.symm
theorem dropR_go {s : ByteArray} {k : Nat} (hk : s.size = k + 1) (hc : layB (s[k]'(by omega)) = true) : dropR (bs s) = dropR ((bs s).take k) := by
  have e := snoc_of hk
  rw [e, dropR_snoc, if_pos hc]
  rw [← e]
theorem dropR_stop {s : ByteArray} {k : Nat} (hk : s.size = k + 1) (hc : layB (s[k]'(by omega)) = false) : dropR (bs s) = bs s := by
  have e := snoc_of hk
  rw [e, dropR_snoc, if_neg (by rw [hc]; decide)]
theorem bs_zero0 {s : ByteArray} (h : ¬ 0 < s.size) : bs s = [] := List.length_eq_zero_iff.1 (by rw [bs_length]; omega)
set_option maxHeartbeats 4000000 in
set_option maxRecDepth 100000 in
theorem rtrim_c (s : ByteArray) (hs : s.size ≤ maxLen) (w : World) : Calls Tryd.prog 9 #[.string s] w fun e w' => e = .returned (.string (mkB (trimT (bs s)))) ∧ w' = w := by
  have hm : maxLen = 9223372036854775807 := rfl
  rw [hm] at hs
  rw [← drop_both]
  obtain ⟨L, hL⟩ : ∃ L, (bs s).dropWhile layB = L := ⟨_, rfl⟩
  rw [hL]
  have HL := Lib.hid hL
  clear hL hm
  go_enter Tryd.func9, Tryd.ntmps9
  go_wp2_with fail
  go_loopw [0] (fun v0 wr => ∃ t : ByteArray, v0 = .string t ∧ t.size ≤ 9223372036854775807 ∧ w = wr ∧ Hid ((bs t).dropWhile layB = L)) (fun v0 _ => strSize v0)
  case atStart => exact ⟨s, rfl, hs, rfl, HL.out⟩
  case round =>
    clear HL hs
    obtain ⟨t, rfl, ht, rfl, HT⟩ := hrel
    by_cases h0 : 0 < t.size
    · have hi1 : (0 : Int) < (t.size : Int) := by omega
      by_cases hc : layB (t[0]'h0) = true
      · have HN : Hid ((bs (t.extract 1 t.size)).dropWhile layB = L) := Lib.hid (by rw [bs_tail, ← HT.out, dropW_go h0 hc])
        have hsz : (t.extract 1 t.size).size = t.size - 1 := by rw [ByteArray.size_extract]; omega
        rcases lay_iff.1 hc with h32 | h9
        · have q1 : ((t[0].toNat : Int) == 32) = true := by rw [h32]; rfl
          clear hc h32
          go_wp2_with fail
          go_roundw
          case rel => exact ⟨_, rfl, by omega, trivial, HN.out⟩
          case measure => simp only [strSize]; omega
        · have q1 : ((t[0].toNat : Int) == 32) = false := by rw [h9]; rfl
          have q2 : ((t[0].toNat : Int) == 9) = true := by rw [h9]; rfl
          clear hc h9
          go_wp2_with fail
          go_roundw
          case rel => exact ⟨_, rfl, by omega, trivial, HN.out⟩
          case measure => simp only [strSize]; omega
      · have hc' : layB (t[0]'h0) = false := by simpa using hc
        have hbt : bs t = L := by rw [← HT.out, dropW_stop h0 hc']
        have q1 : ((t[0].toNat : Int) == 32) = false := u8b (fun e => hc (lay_iff.2 (.inl e)))
        have q2 : ((t[0].toNat : Int) == 9) = false := u8b (fun e => hc (lay_iff.2 (.inr e)))
        have HBT := Lib.hid hbt
        clear hc hc' hbt HT
        go_wp2_with fail
        go_loopw [0] (fun v0 wr => ∃ t : ByteArray, v0 = .string t ∧ t.size ≤ 9223372036854775807 ∧ w = wr ∧ Hid (dropR (bs t) = dropR L)) (fun v0 _ => strSize v0)
        case atStart => exact ⟨t, rfl, ht, rfl, Lib.hid (by rw [HBT.out])⟩
        case round =>
          clear HBT
          obtain ⟨r, rfl, hr, rfl, HT⟩ := hrel
          by_cases h0 : 0 < r.size
          · obtain ⟨k, hk⟩ : ∃ k, r.size = k + 1 := ⟨r.size - 1, by omega⟩
            have hi1 : (0 : Int) < (r.size : Int) := by omega
            have hkl : k < r.size := by omega
            have g1 : IntKind.i64.wrap ((r.size : Int) - 1) = (k : Int) := by rw [IntKind.wrap_i64]; omega
            have g2 : ((k : Int)).toNat = k := by omega
            have g3 : (r.size : Int) - 1 = (k : Int) := by omega
            have g4 : r.size - 1 = k := by omega
            have g5 : (k : Int) < (r.size : Int) := by omega
            have g6 : ¬ (k : Int) < 0 := by omega
            have g7 : (0 : Int) ≤ (k : Int) := by omega
            have g8 : (k : Int) ≤ (r.size : Int) := by omega
            have g9 : k ≤ r.size := by omega
            by_cases hc : layB (r[k]'hkl) = true
            · have HN : Hid (dropR (bs (r.extract 0 k)) = dropR L) := Lib.hid (by rw [bs_head, ← HT.out, dropR_go hk hc])
              have hsz : (r.extract 0 k).size = k := by rw [ByteArray.size_extract]; omega
              rcases lay_iff.1 hc with h32 | h9
              · have q1 : ((r[k].toNat : Int) == 32) = true := by rw [h32]; rfl
                clear hc h32
                go_wp2_with fail
                go_roundw
                case rel => exact ⟨_, rfl, by omega, trivial, HN.out⟩
                case measure => simp only [strSize]; omega
              · have q1 : ((r[k].toNat : Int) == 32) = false := by rw [h9]; rfl
                have q2 : ((r[k].toNat : Int) == 9) = true := by rw [h9]; rfl
                clear hc h9
                go_wp2_with fail
                go_roundw
                case rel => exact ⟨_, rfl, by omega, trivial, HN.out⟩
                case measure => simp only [strSize]; omega
            · have hc' : layB (r[k]'hkl) = false := by simpa using hc
              have q1 : ((r[k].toNat : Int) == 32) = false := u8b (fun e => hc (lay_iff.2 (.inl e)))
              have q2 : ((r[k].toNat : Int) == 9) = false := u8b (fun e => hc (lay_iff.2 (.inr e)))
              have HBR : Hid (mkB (dropR L) = r) := Lib.hid (by rw [← HT.out, dropR_stop hk hc', mkB_bs])
              clear hc hc' HT
              go_wp2_with fail
              go_ret
              exact ⟨by rw [HBR.out]; rfl, rfl⟩
          · have hi1 : ¬ (0 : Int) < (r.size : Int) := by omega
            have HBR : Hid (mkB (dropR L) = r) := Lib.hid (by rw [← HT.out, bs_zero0 h0, ← mkB_bs r, bs_zero0 h0]; rfl)
            clear HT
            go_wp2_with fail
            go_ret
            exact ⟨by rw [HBR.out]; rfl, rfl⟩
    · have hi1 : ¬ (0 : Int) < (t.size : Int) := by omega
      have HBT : Hid (bs t = L) := Lib.hid (by rw [← HT.out, bs_zero0 h0]; rfl)
      clear HT
      go_wp2_with fail
      go_loopw [0] (fun v0 wr => ∃ t : ByteArray, v0 = .string t ∧ t.size ≤ 9223372036854775807 ∧ w = wr ∧ Hid (dropR (bs t) = dropR L)) (fun v0 _ => strSize v0)
      case atStart => exact ⟨t, rfl, ht, rfl, Lib.hid (by rw [HBT.out])⟩
      case round =>
        clear HBT
        obtain ⟨r, rfl, hr, rfl, HT⟩ := hrel
        by_cases h0 : 0 < r.size
        · obtain ⟨k, hk⟩ : ∃ k, r.size = k + 1 := ⟨r.size - 1, by omega⟩
          have hi1 : (0 : Int) < (r.size : Int) := by omega
          have hkl : k < r.size := by omega
          have g1 : IntKind.i64.wrap ((r.size : Int) - 1) = (k : Int) := by rw [IntKind.wrap_i64]; omega
          have g2 : ((k : Int)).toNat = k := by omega
          have g3 : (r.size : Int) - 1 = (k : Int) := by omega
          have g4 : r.size - 1 = k := by omega
          have g5 : (k : Int) < (r.size : Int) := by omega
          have g6 : ¬ (k : Int) < 0 := by omega
          have g7 : (0 : Int) ≤ (k : Int) := by omega
          have g8 : (k : Int) ≤ (r.size : Int) := by omega
          have g9 : k ≤ r.size := by omega
          by_cases hc : layB (r[k]'hkl) = true
          · have HN : Hid (dropR (bs (r.extract 0 k)) = dropR L) := Lib.hid (by rw [bs_head, ← HT.out, dropR_go hk hc])
            have hsz : (r.extract 0 k).size = k := by rw [ByteArray.size_extract]; omega
            rcases lay_iff.1 hc with h32 | h9
            · have q1 : ((r[k].toNat : Int) == 32) = true := by rw [h32]; rfl
              clear hc h32
              go_wp2_with fail
              go_roundw
              case rel => exact ⟨_, rfl, by omega, trivial, HN.out⟩
              case measure => simp only [strSize]; omega
            · have q1 : ((r[k].toNat : Int) == 32) = false := by rw [h9]; rfl
              have q2 : ((r[k].toNat : Int) == 9) = true := by rw [h9]; rfl
              clear hc h9
              go_wp2_with fail
              go_roundw
              case rel => exact ⟨_, rfl, by omega, trivial, HN.out⟩
              case measure => simp only [strSize]; omega
          · have hc' : layB (r[k]'hkl) = false := by simpa using hc
            have q1 : ((r[k].toNat : Int) == 32) = false := u8b (fun e => hc (lay_iff.2 (.inl e)))
            have q2 : ((r[k].toNat : Int) == 9) = false := u8b (fun e => hc (lay_iff.2 (.inr e)))
            have HBR : Hid (mkB (dropR L) = r) := Lib.hid (by rw [← HT.out, dropR_stop hk hc', mkB_bs])
            clear hc hc' HT
            go_wp2_with fail
            go_ret
            exact ⟨by rw [HBR.out]; rfl, rfl⟩
        · have hi1 : ¬ (0 : Int) < (r.size : Int) := by omega
          have HBR : Hid (mkB (dropR L) = r) := Lib.hid (by rw [← HT.out, bs_zero0 h0, ← mkB_bs r, bs_zero0 h0]; rfl)
          clear HT
          go_wp2_with fail
          go_ret
          exact ⟨by rw [HBR.out]; rfl, rfl⟩
end Go.Proofs.YtjcefgjgjhdbpaaDoor
namespace Go.Proofs.YtjcefgjgjhdbpaaDoor
set_option linter.unusedVariables false
set_option linter.unusedSimpArgs false
open Go.RowKit Go.Maps

/-- The text of a block that is still open. -/
def twoPre (t : Wd) (vs : List Wd) : Wd := headL ++ 10 :: (openV t ++ 10 :: vs.flatMap fun v => v ++ [10])
theorem two_end (t : Wd) (vs : List Wd) : twoPre t vs ++ (closeV t ++ [10]) = twoText t vs := by
  unfold twoPre twoText
  simp [List.append_assoc]
theorem one_snoc (t : Wd) (vs : List Wd) (v : Wd) : oneText t (vs ++ [v]) = oneText t vs ++ (lineV t v ++ [10]) := by
  unfold oneText
  simp [List.append_assoc]
theorem two_snoc (t : Wd) (vs : List Wd) (v : Wd) : twoPre t (vs ++ [v]) = twoPre t vs ++ (v ++ [10]) := by
  unfold twoPre
  simp [List.append_assoc]
theorem lit_noB {t : ByteArray} {l : Wd} (h : bs t ≠ l) : (t.toList == l) = false := by
  rw [Lib.toList_data]
  show (bs t == l) = false
  simpa using h
theorem lit_yesB {t : ByteArray} {l : Wd} (h : bs t = l) : (t.toList == l) = true := by
  rw [Lib.toList_data]
  show (bs t == l) = true
  rw [h]
  simp
def TagOk (c : UInt8) : Prop := ¬ (c.toNat : Int) < 65 ∧ ¬ (122 : Int) < (c.toNat : Int)
theorem tagOk_plain {c : UInt8} (h : TagOk c) : c ≠ 10 ∧ c ≠ 58 ∧ layB c = false := by
  obtain ⟨h1, h2⟩ := h
  refine ⟨fun e => ?_, fun e => ?_, ?_⟩
  · subst e; exact h1 (by decide)
  · subst e; exact h1 (by decide)
  · by_cases h : layB c = true
    · rcases lay_iff.1 h with e | e <;> · subst e; exact absurd (by decide) h1
    · simpa using h
set_option maxHeartbeats 8000000 in
set_option maxRecDepth 1000000 in
theorem suseBlocks_walk (tag : ByteArray) (us : List ByteArray) (va : Option Addr) (n vc : Nat) (w : World) (ht : tag.size ≤ reachBytes) (hu : StrsV w (· < w.heap.size) us (.slice va n vc)) : Calls Tryd.prog 5 #[.string tag, .slice va n vc] w fun e w' => e = .returned (.bool true) ∧ Below w.heap.size w w' := by
  have hr : reachBytes = 140737488351232 := rfl
  have HAW := Lib.hid (awake_c w)
  obtain ⟨a', c', e, hsz, hlim, hcell⟩ := hu
  injection e with e1 e2 e3
  subst e1 e2 e3
  obtain ⟨n, hn⟩ : ∃ n, us.length = n := ⟨_, rfl⟩
  rw [hn]
  rw [hn] at hlim
  have HN := Lib.hid hn
  have HSZ := Lib.hid hsz
  have HCELL := Lib.hid hcell
  clear hn hsz hcell
  go_enter Tryd.func5, Tryd.ntmps5
  go_wp2_with fail
  refine HAW.out.mono ?_
  rintro e0 w1 ⟨rfl, hb1⟩
  have HB1 := Lib.hid hb1
  clear hb1 HAW
  by_cases h3 : tag.size = 3
  case neg =>
    have q1 : ((tag.size : Int) == 3) = false := by
      rw [beq_eq_false_iff_ne]
      omega
    have q2 : ((tag.size : Int) != 3) = true := by
      rw [bne_iff_ne]
      omega
    clear h3
    go_wp2_with fail
    go_ret
    exact ⟨rfl, HB1.out⟩
  have q1 : ((tag.size : Int) == 3) = true := by
    rw [beq_iff_eq]
    omega
  have q2 : ((tag.size : Int) != 3) = false := by
    rw [bne_eq_false_iff_eq]
    omega
  by_cases hp : bs tag = pkgW
  · have q3 : (tag.toList == ([80, 107, 103] : List UInt8)) = true := lit_yesB hp
    clear h3 hp
    go_wp2_with fail
    go_ret
    exact ⟨rfl, HB1.out⟩
  have q3 : (tag.toList == ([80, 107, 103] : List UInt8)) = false := lit_noB hp
  by_cases hv : bs tag = vndW
  · have q4 : (tag.toList == ([86, 110, 100] : List UInt8)) = true := lit_yesB hv
    clear h3 hp hv
    go_wp2_with fail
    go_ret
    exact ⟨rfl, HB1.out⟩
  have q4 : (tag.toList == ([86, 110, 100] : List UInt8)) = false := lit_noB hv
  by_cases h40 : (40 : Int) < (n : Int)
  · clear h3 hp hv
    go_wp2_with fail
    go_ret
    exact ⟨rfl, HB1.out⟩
  replace h3 := Lib.hid h3
  have HP := Lib.hid hp
  have HV := Lib.hid hv
  clear hp hv
  go_wp2_with fail
  go_loopw [6] (fun v6 wr => ∃ i : Nat, v6 = .int .i64 (i : Int) ∧ i ≤ 3 ∧ w1 = wr ∧ Hid (∀ j (h : j < (bs tag).length), j < i → TagOk (bs tag)[j])) (fun v6 _ => 3 - (intOf v6).toNat)
  case atStart => exact ⟨0, rfl, by omega, rfl, fun j _ h => absurd h (Nat.not_lt_zero _)⟩
  case round =>
    obtain ⟨i, rfl, hi, rfl, HT⟩ := hrel
    by_cases hlt : i < 3
    · have hi1 : (i : Int) < 3 := by omega
      have hi2 : i < tag.size := by rw [h3.out]; exact hlt
      have hi3 : (i : Int) < (tag.size : Int) := by omega
      by_cases hc : TagOk (tag[i]'hi2)
      · obtain ⟨c1, c2⟩ := hc
        have HN1 : Hid (∀ j (h : j < (bs tag).length), j < i + 1 → TagOk (bs tag)[j]) := Lib.hid fun j h hj => by
          by_cases e : j = i
          · subst e; exact ⟨c1, c2⟩
          · exact HT.out j h (by omega)
        clear HT
        go_wp2_with fail
        go_roundw
        case rel => exact ⟨i + 1, by go_num, by omega, trivial, HN1.out⟩
        case measure => simp [intOf]; omega
      · by_cases c1 : (tag[i].toNat : Int) < 65
        · clear hc
          go_wp2_with fail
          go_ret
          exact ⟨rfl, HB1.out⟩
        · have c2 : (122 : Int) < (tag[i].toNat : Int) := by
            by_cases c2 : (122 : Int) < (tag[i].toNat : Int)
            · exact c2
            · exact absurd ⟨c1, c2⟩ hc
          clear hc
          go_wp2_with fail
          go_ret
          exact ⟨rfl, HB1.out⟩
    · have hi1 : ¬ (i : Int) < 3 := by omega
      have HTAG : Hid (PlainT (bs tag) ∧ (bs tag).length = 3) := Lib.hid (by
        have h5 := h3.out
        rw [← bs_length] at h5
        refine ⟨⟨fun e => (by rw [e] at h5; cases h5), fun c hc => ?_⟩, h5⟩
        obtain ⟨j, hj, rfl⟩ := List.getElem_of_mem hc
        exact tagOk_plain (HT.out j hj (by omega)))
      clear HT
      have hts : tag.size ≤ 3 := by rw [h3.out]; exact Nat.le_refl _
      have y1 : ¬ 9223372036854775807 < 20 + tag.size := by omega
      have y2 : ¬ 9223372036854775807 < 20 + tag.size + 2 := by omega
      have y3 : ¬ 9223372036854775807 < 19 + 1 + tag.size := by omega
      have y4 : ¬ 9223372036854775807 < 19 + 1 + tag.size + 2 := by omega
      have HT3 := Lib.hid hts
      have h40' : n ≤ 40 := by omega
      have HM := Lib.hid h40'
      clear h40'
      go_wp2_with fail
      clear y1 y2 y3 y4 hi1 hlt hi
      go_loopw [8, 9, 10] (fun v8 v9 v10 wr => ∃ (i : Nat) (o p : ByteArray) (vs : List Wd), v10 = .int .i64 (i : Int) ∧ v8 = .string o ∧ v9 = .string p ∧ i ≤ n ∧ w1 = wr ∧ o.size ≤ 30 + i * 510 ∧ p.size ≤ 30 + i * 510 ∧ Hid (bs o = oneText (bs tag) vs ∧ bs p = twoPre (bs tag) vs ∧ vs.length = i ∧ ∀ v ∈ vs, PlainV v ∧ v.length ≤ 500)) (fun _ _ v10 _ => n - (intOf v10).toNat)
      case atStart =>
        refine ⟨0, _, _, [], rfl, rfl, rfl, Nat.zero_le _, rfl, by decide, ?_, Lib.hid ⟨rfl, ?_, rfl, fun v h => by cases h⟩⟩
        · simp only [ByteArray.size_append]
          have e1 : (⟨#[61, 80, 107, 103, 58, 32, 97, 32, 49, 32, 49, 32, 110, 111, 97, 114, 99, 104, 10]⟩ : ByteArray).size = 19 := rfl
          have e2 : (⟨#[43]⟩ : ByteArray).size = 1 := rfl
          have e3 : (⟨#[58, 10]⟩ : ByteArray).size = 2 := rfl
          omega
        · rw [bs_app, bs_app, bs_app]
          unfold twoPre openV
          simp only [List.flatMap_nil, List.append_assoc]
          show (headL ++ [10]) ++ ([43] ++ (bs tag ++ [58, 10])) = headL ++ 10 :: (43 :: (bs tag ++ [58]) ++ [10])
          simp [List.append_assoc]
      case round =>
        clear hts
        obtain ⟨i, o, p, vs, rfl, rfl, rfl, hin, rfl, ho, hpz, HV2⟩ := hrel
        have hn40 : n ≤ 40 := HM.out
        by_cases hlt : i < n
        · have hi1 : (i : Int) < (n : Int) := by omega
          have hi2 : i < us.length := by rw [HN.out]; exact hlt
          obtain ⟨b, off, rfl, hbl, hce⟩ := HCELL.out (by intro e; rw [e] at hi2; exact absurd hi2 (Nat.not_lt_zero _))
          have hc1 : w1.cell? ⟨b, off + i, none⟩ = some (.string us[i]) := cell_tr HB1.out (hce i hi2)
          have hus := HSZ.out us[i] (List.getElem_mem hi2)
          generalize us[i] = u at hc1 hus
          have HTR := Lib.hid (rtrim_c u hus w1)
          have hhead : ∀ c r, trimT (bs u) = c :: r → layB c = false := fun c r h => trimT_head h
          have hVs : (mkB (trimT (bs u))).size ≤ maxLen := by
            have h1 : (trimT (bs u)).length ≤ (bs u).length := by
              unfold trimT
              refine Nat.le_trans (List.dropWhile_sublist _).length_le ?_
              rw [List.length_reverse]
              exact Nat.le_trans (List.dropWhile_sublist _).length_le (by rw [List.length_reverse]; exact Nat.le_refl _)
            rw [bs_length] at h1
            exact Nat.le_trans h1 hus
          obtain ⟨V, hV⟩ : ∃ V, mkB (trimT (bs u)) = V := ⟨_, rfl⟩
          have hbV : trimT (bs u) = bs V := by rw [← hV]; rfl
          rw [hbV] at hhead
          rw [hV] at HTR hVs
          have HHD := Lib.hid hhead
          clear hhead hV hbV hus hce hbl
          have hm : maxLen = 9223372036854775807 := rfl
          rw [hm] at hVs
          clear hm
          go_wp2_with fail
          refine HTR.out.mono ?_
          rintro e3 w3 ⟨rfl, hw3⟩
          obtain rfl : w1 = w3 := hw3.symm
          clear HTR hc1
          go_wp2_with fail
          go_loopw [12] (fun v12 wr => ∃ k : Nat, v12 = .int .i64 (k : Int) ∧ k ≤ V.size ∧ w1 = wr ∧ Hid (∀ j (h : j < (bs V).length), j < k → (bs V)[j] ≠ 10)) (fun v12 _ => V.size - (intOf v12).toNat)
          case atStart => exact ⟨0, rfl, Nat.zero_le _, rfl, fun j _ h => absurd h (Nat.not_lt_zero _)⟩
          case round =>
            obtain ⟨k, rfl, hk, rfl, HT2⟩ := hrel
            by_cases hkl : k < V.size
            · have hk1 : (k : Int) < (V.size : Int) := by omega
              by_cases h10 : V[k] = 10
              · have q5 : ((V[k].toNat : Int) == 10) = true := by rw [h10]; rfl
                clear h10
                go_wp2_with fail
                go_ret
                exact ⟨rfl, HB1.out⟩
              · have q5 : ((V[k].toNat : Int) == 10) = false := u8b h10
                have HN1 : Hid (∀ j (h : j < (bs V).length), j < k + 1 → (bs V)[j] ≠ 10) := Lib.hid fun j h hj => by
                  by_cases e : j = k
                  · subst e; exact h10
                  · exact HT2.out j h (by omega)
                clear HT2 h10
                go_wp2_with fail
                go_roundw
                case rel => exact ⟨k + 1, by go_num, by omega, trivial, HN1.out⟩
                case measure => simp [intOf]; omega
            · have hk1 : ¬ (k : Int) < (V.size : Int) := by omega
              have H10 : Hid (∀ c ∈ bs V, c ≠ 10) := Lib.hid fun c hc => by
                obtain ⟨j, hj, rfl⟩ := List.getElem_of_mem hc
                exact HT2.out j hj (by rw [bs_length] at hj; omega)
              clear HT2
              by_cases hV0 : V.size = 0
              · obtain rfl := empty_b hV0
                clear hV0
                go_wp2_with fail
                go_ret
                exact ⟨rfl, HB1.out⟩
              · have hV1 : 0 < V.size := by omega
                have hV2 : (0 : Int) < (V.size : Int) := by omega
                have hne3 : V.toList.isEmpty = false := by
                  have := nil_ne3 (l := bs V) (fun e => hV0 (by rw [← bs_length, e]; rfl))
                  rwa [mkB_bs] at this
                have hne : (V.toList == ([] : List UInt8)) = false := by
                  have := nil_ne (l := bs V) (fun e => hV0 (by rw [← bs_length, e]; rfl))
                  rwa [mkB_bs] at this
                by_cases h45 : V[0] = 45
                · have q5 : ((V[0].toNat : Int) == 45) = true := by rw [h45]; rfl
                  clear h45
                  go_wp2_with fail
                  go_ret
                  exact ⟨rfl, HB1.out⟩
                · have q5 : ((V[0].toNat : Int) == 45) = false := u8b h45
                  have hbV : bs V = V[0] :: (bs V).drop 1 := by
                    have h3 : 0 < (bs V).length := by rw [bs_length]; exact hV1
                    have := List.drop_eq_getElem_cons h3
                    rw [List.drop_zero] at this
                    exact this
                  have HPV : Hid (PlainV (bs V)) := Lib.hid ⟨H10.out, by
                    rw [hbV]
                    intro e
                    exact h45 (Option.some.inj e), fun e => by
                    have h6 := trimT_nil.1 e V[0] (by rw [hbV]; exact List.mem_cons_self)
                    rw [HHD.out _ _ hbV] at h6
                    cases h6⟩
                  clear hbV h45
                  by_cases h500 : (500 : Int) < (V.size : Int)
                  · go_wp2_with fail
                    go_ret
                    exact ⟨rfl, HB1.out⟩
                  · have hV5 : V.size ≤ 500 := by omega
                    have ho2 : o.size ≤ 30000 := by omega
                    have hp2 : p.size ≤ 30000 := by omega
                    have ht2 : tag.size ≤ 3 := HT3.out
                    have HNEW : Hid (bs (o ++ (⟨#[61]⟩ : ByteArray) ++ tag ++ (⟨#[58, 32]⟩ : ByteArray) ++ V ++ (⟨#[10]⟩ : ByteArray)) = oneText (bs tag) (vs ++ [bs V]) ∧ bs (p ++ V ++ (⟨#[10]⟩ : ByteArray)) = twoPre (bs tag) (vs ++ [bs V]) ∧ (vs ++ [bs V]).length = i + 1 ∧ ∀ v ∈ vs ++ [bs V], PlainV v ∧ v.length ≤ 500) := Lib.hid (by
                      obtain ⟨h6, h7, h8, h9⟩ := HV2.out
                      refine ⟨?_, ?_, by rw [List.length_append, h8]; rfl, fun v hv => ?_⟩
                      · simp only [bs_app]
                        rw [one_snoc, h6]
                        unfold lineV
                        show oneText (bs tag) vs ++ [61] ++ bs tag ++ [58, 32] ++ bs V ++ [10] = _
                        simp [List.append_assoc]
                      · simp only [bs_app]
                        rw [two_snoc, h7]
                        show twoPre (bs tag) vs ++ bs V ++ [10] = _
                        simp [List.append_assoc]
                      · rcases List.mem_append.1 hv with hv | hv
                        · exact h9 v hv
                        · rw [List.mem_singleton] at hv
                          rw [hv]
                          exact ⟨HPV.out, by rw [bs_length]; exact hV5⟩)
                    have hs1 : (o ++ (⟨#[61]⟩ : ByteArray) ++ tag ++ (⟨#[58, 32]⟩ : ByteArray) ++ V ++ (⟨#[10]⟩ : ByteArray)).size ≤ 30 + (i + 1) * 510 := by
                      simp only [ByteArray.size_append]
                      have e1 : (⟨#[61]⟩ : ByteArray).size = 1 := rfl
                      have e2 : (⟨#[58, 32]⟩ : ByteArray).size = 2 := rfl
                      have e3 : (⟨#[10]⟩ : ByteArray).size = 1 := rfl
                      omega
                    have hs2 : (p ++ V ++ (⟨#[10]⟩ : ByteArray)).size ≤ 30 + (i + 1) * 510 := by
                      simp only [ByteArray.size_append]
                      have e3 : (⟨#[10]⟩ : ByteArray).size = 1 := rfl
                      omega
                    have HS12 := Lib.hid (And.intro hs1 hs2)
                    have y1 : ¬ 9223372036854775807 < o.size + 1 := by omega
                    have y2 : ¬ 9223372036854775807 < o.size + 1 + tag.size := by omega
                    have y3 : ¬ 9223372036854775807 < o.size + 1 + tag.size + 2 := by omega
                    have y4 : ¬ 9223372036854775807 < o.size + 1 + tag.size + 2 + V.size := by omega
                    have y5 : ¬ 9223372036854775807 < o.size + 1 + tag.size + 2 + V.size + 1 := by omega
                    have y6 : ¬ 9223372036854775807 < p.size + V.size := by omega
                    have y7 : ¬ 9223372036854775807 < p.size + V.size + 1 := by omega
                    clear hs1 hs2
                    go_wp2_with fail
                    go_roundw
                    case rel => exact ⟨i + 1, _, _, vs ++ [bs V], by go_num, rfl, rfl, by omega, trivial, HS12.out.1, HS12.out.2, HNEW.out⟩
                    case measure => simp [intOf]; omega
        · have hi1 : ¬ (i : Int) < (n : Int) := by omega
          have ho2 : o.size ≤ 30000 := by omega
          have hp2 : p.size ≤ 30000 := by omega
          have ht2 : tag.size ≤ 3 := HT3.out
          have hm : 100000 ≤ maxLen := by decide
          obtain ⟨h6, h7, h8, h9⟩ := HV2.out
          have hsz2 : (p ++ (⟨#[45]⟩ : ByteArray) ++ tag ++ (⟨#[58, 10]⟩ : ByteArray)).size ≤ 50000 := by
            simp only [ByteArray.size_append]
            have e1 : (⟨#[45]⟩ : ByteArray).size = 1 := rfl
            have e2 : (⟨#[58, 10]⟩ : ByteArray).size = 2 := rfl
            omega
          have hbs2 : bs (p ++ (⟨#[45]⟩ : ByteArray) ++ tag ++ (⟨#[58, 10]⟩ : ByteArray)) = twoText (bs tag) vs := by
            simp only [bs_app]
            rw [← two_end, h7]
            unfold closeV
            show twoPre (bs tag) vs ++ [45] ++ bs tag ++ [58, 10] = _
            simp [List.append_assoc]
          have hlaw := blocks_law HTAG.out.1 HTAG.out.2 HP.out (vs := vs) (by omega) h9
          have eo : mkB (oneText (bs tag) vs) = o := by rw [← h6, mkB_bs]
          have ep : mkB (twoText (bs tag) vs) = p ++ (⟨#[45]⟩ : ByteArray) ++ tag ++ (⟨#[58, 10]⟩ : ByteArray) := by rw [← hbs2, mkB_bs]
          rw [eo, ep] at hlaw
          have H1 := Lib.hid (fun W => sparse_c o (by omega) W)
          have H2 := Lib.hid (fun W => sparse_c (p ++ (⟨#[45]⟩ : ByteArray) ++ tag ++ (⟨#[58, 10]⟩ : ByteArray)) (by omega) W)
          rw [hlaw] at H1
          obtain ⟨⟨ps, q⟩, hA⟩ : ∃ x, suseParse (p ++ (⟨#[45]⟩ : ByteArray) ++ tag ++ (⟨#[58, 10]⟩ : ByteArray)) = x := ⟨_, rfl⟩
          rw [hA] at H1 H2
          have y6 : ¬ 9223372036854775807 < p.size + 1 := by omega
          have y7 : ¬ 9223372036854775807 < p.size + 1 + tag.size := by omega
          have y8 : ¬ 9223372036854775807 < p.size + 1 + tag.size + 2 := by omega
          clear hlaw hA eo ep hbs2 hsz2 h6 h7 h8 h9 HV2
          go_wp2_with fail
          refine (H1.out _).mono ?_
          rintro e2 w2 ⟨vx, rfl, hb2, hp2'⟩
          have HB2 := Lib.hid hb2
          have HP2 := Lib.hid hp2'
          clear hb2 hp2'
          go_wp2_with fail
          refine (H2.out _).mono ?_
          rintro e3 w3 ⟨vy, rfl, hb3, hp3⟩
          have HB3 := Lib.hid hb3
          have HP3 := Lib.hid hp3
          clear hb3 hp3
          have HSA := Lib.hid (sameList_c ps vx vy _ _ w3 (HP2.out.low new_lt HB3.out) (HP3.out.low new_lt (Below.refl _ _)))
          go_wp2_with fail
          refine HSA.out.mono ?_
          rintro e4 w4 ⟨rfl, hb4⟩
          have HB4 := Lib.hid hb4
          clear hb4
          go_wp2_with fail
          go_ret
          exact ⟨by simp, HB1.out.trans (below_to (HB2.out.trans (below_to (HB3.out.trans (below_to HB4.out HB3.out.size)) HB2.out.size)) HB1.out.size)⟩
end Go.Proofs.YtjcefgjgjhdbpaaDoor
