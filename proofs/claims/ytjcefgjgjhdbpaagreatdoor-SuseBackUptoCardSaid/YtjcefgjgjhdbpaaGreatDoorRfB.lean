/-
  How the document's reader of tags takes a text apart: lines, words, tags. Plain words; no conditions beyond those typed.
  How the document's reader of tags takes a text apart: the walks. Helper text (printed by gen_rfA.py); the conditions are those typed.
  The words of a dependency's text, as the document takes them: the walks. Helper text (printed by gen_rfB.py); the conditions are those typed.
-/
import Derived.Test.YtjcefgjgjhdbpaaGreatDoorSuseSpec
import Derived.Test.YtjcefgjgjhdbpaaGreatDoorTrimW
import Derived.Test.YtjcefgjgjhdbpaaGreatDoorPackA
import Derived.Test.YtjcefgjgjhdbpaaGreatDoorNameC
import Derived.BigQuiet
namespace Go.Proofs.YtjcefgjgjhdbpaaGreatDoor
set_option linter.unusedVariables false
set_option linter.unusedSimpArgs false

/-! ### words of a value -/
def fldR : Wd → Wd → List Wd
  | cur, [] => if cur = [] then [] else [cur]
  | cur, c :: l => if c = 32 then (if cur = [] then fldR [] l else cur :: fldR [] l) else fldR (cur ++ [c]) l
/-- Some bytes more ahead of the first part. -/
def pre1 (cur : Wd) : List Wd → List Wd
  | [] => []
  | h :: t => (cur ++ h) :: t
theorem pre1_nil (l : List Wd) : pre1 [] l = l := by cases l <;> rfl
theorem splitC_ne (c : UInt8) (l : Wd) : splitC c l ≠ [] := by
  cases l with
  | nil => simp [splitC]
  | cons x l =>
    unfold splitC
    split
    · simp
    · cases splitC c l <;> simp
theorem splitC_cons' (c x : UInt8) (l : Wd) : splitC c (x :: l) = if x = c then [] :: splitC c l else pre1 [x] (splitC c l) := by
  rw [splitC]
  split
  · rfl
  · cases h : splitC c l with
    | nil => exact absurd h (splitC_ne c l)
    | cons a t => rfl
theorem pre1_pre1 (a b : Wd) (l : List Wd) : pre1 a (pre1 b l) = pre1 (a ++ b) l := by
  cases l with
  | nil => rfl
  | cons h t => simp [pre1]
theorem fldR_is : ∀ (l cur : Wd), fldR cur l = (pre1 cur (splitC 32 l)).filter fun w => !w.isEmpty
  | [], cur => by
    show (if cur = [] then [] else [cur]) = [cur ++ []].filter _
    rw [List.append_nil]
    cases cur <;> rfl
  | c :: l, cur => by
    rw [fldR, splitC_cons']
    by_cases h : c = 32
    · rw [if_pos h, if_pos h, fldR_is l [], pre1_nil]
      show _ = ((cur ++ []) :: splitC 32 l).filter _
      rw [List.append_nil]
      cases cur <;> rfl
    · rw [if_neg h, if_neg h, fldR_is l, pre1_pre1]
theorem fldR_fields (l : Wd) : fldR [] l = fieldsS l := by rw [fldR_is, pre1_nil]; rfl

/-! ### lines -/
def lnR : Wd → Wd → List Wd
  | cur, [] => if cur = [] then [] else [cur]
  | cur, c :: l => if c = 10 then cur :: lnR [] l else lnR (cur ++ [c]) l
theorem lnR_is : ∀ (l cur : Wd), lnR cur l = if cur ++ l = [] then [] else (cur ++ lineOf l) :: linesB (restOf l)
  | [], cur => by
    rw [lnR, List.append_nil]
    cases cur with
    | nil => rfl
    | cons a t => rw [if_neg (by simp), if_neg (by simp)]; show _ = [(a :: t) ++ []]; rw [List.append_nil]
  | c :: l, cur => by
    have hne : cur ++ c :: l ≠ [] := by simp
    rw [lnR, if_neg hne]
    by_cases h : c = 10
    · have e1 : lineOf (c :: l) = [] := by subst h; rfl
      have e2 : restOf (c :: l) = l := by subst h; rfl
      rw [if_pos h, e1, e2, List.append_nil, lnR_is l [], List.nil_append, List.nil_append]
      by_cases hl : l = []
      · rw [if_pos hl, hl]; rfl
      · rw [if_neg hl, ← linesB_cons hl]
    · have hb : (c != 10) = true := by simpa using h
      have e1 : lineOf (c :: l) = c :: lineOf l := by unfold lineOf; rw [List.takeWhile_cons, if_pos hb]
      have e2 : restOf (c :: l) = restOf l := by unfold restOf; rw [List.dropWhile_cons, if_pos hb]
      have hne2 : cur ++ [c] ++ l ≠ [] := by simp
      rw [if_neg h, lnR_is l, if_neg hne2, e1, e2, List.append_assoc, List.singleton_append]
theorem lnR_lines (l : Wd) : lnR [] l = linesB l := by
  rw [lnR_is, List.nil_append, List.nil_append]
  by_cases hl : l = []
  · rw [if_pos hl, hl]; rfl
  · rw [if_neg hl, ← linesB_cons hl]

/-! ### a dependency's words -/
theorem wordsB_blank (l : Wd) : wordsB (32 :: l) = wordsB l := by
  have h : trimB (32 :: l) = trimB l := rfl
  cases e : trimB l with
  | nil => rw [wordsB_nil e, wordsB_nil (h.trans e)]
  | cons c t => rw [wordsB_cons e, wordsB_cons (h.trans e)]
theorem wordsB_par {c : UInt8} (l : Wd) (h : c = 40 ∨ c = 41) : wordsB (c :: l) = [c] :: wordsB l := by
  have hc : c ≠ 32 := by rcases h with rfl | rfl <;> decide
  have e : trimB (c :: l) = c :: l := by unfold trimB; rw [if_neg hc]
  rw [wordsB_cons e, wordLen_cons, if_pos h]
  rfl
theorem wordsB_word {c : UInt8} (l : Wd) (hc : c ≠ 32) (h1 : c ≠ 40) (h2 : c ≠ 41) : wordsB (c :: l) = (c :: l).take (scanW 0 (c :: l)) :: wordsB ((c :: l).drop (scanW 0 (c :: l))) := by
  have e : trimB (c :: l) = c :: l := by unfold trimB; rw [if_neg hc]
  rw [wordsB_cons e, wordLen_cons, if_neg (by rintro (h | h); exact h1 h; exact h2 h)]
theorem wordsB_empty : wordsB [] = [] := rfl

/-! ### tags -/
/-- What stands ahead of the colon, some bytes in. -/
def tagR (cur : Wd) (l : Wd) : Option (Wd × Wd) := (tagScan l).map fun x => (cur ++ x.1, x.2)
theorem tagR_nil (cur : Wd) : tagR cur [] = none := rfl
theorem tagR_lay {c : UInt8} (cur l : Wd) (h : layB c = true) : tagR cur (c :: l) = none := by
  unfold tagR tagScan
  rw [if_pos h]
  rfl
theorem tagR_col (cur l : Wd) : tagR cur (58 :: l) = some (cur, l) := by
  unfold tagR tagScan
  rw [if_neg (by decide), if_pos rfl]
  simp
theorem tagR_more {c : UInt8} (cur l : Wd) (h : layB c = false) (h2 : c ≠ 58) : tagR cur (c :: l) = tagR (cur ++ [c]) l := by
  unfold tagR
  rw [tagScan, if_neg (by rw [h]; decide), if_neg h2]
  cases tagScan l with
  | none => rfl
  | some x => simp
theorem tagOf_R (s : Wd) : tagOf s = match tagR [] (s.drop 1) with
    | none => none
    | some (a, b) => if a = [] then none else some (a, b) := by
  unfold tagOf tagR
  cases tagScan (s.drop 1) with
  | none => rfl
  | some x => rfl

/-! ### fuel -/
theorem scanW_stop {o : Nat} {c : UInt8} (l : Wd) (h : c = 32 ∨ (c = 41 ∧ o = 0)) : scanW o (c :: l) = 0 := by
  rw [scanW_cons]
  by_cases h1 : c = 32
  · rw [if_pos h1]
  · rw [if_neg h1, if_pos (h.resolve_left h1)]
theorem scanW_go {o : Nat} {c : UInt8} (l : Wd) (h1 : c ≠ 32) (h2 : ¬ (c = 41 ∧ o = 0)) : scanW o (c :: l) = 1 + scanW (if c = 40 then o + 1 else if c = 41 then o - 1 else o) l := by
  rw [scanW_cons, if_neg h1, if_neg h2]
end Go.Proofs.YtjcefgjgjhdbpaaGreatDoor
namespace Go.Proofs.YtjcefgjgjhdbpaaGreatDoor
set_option linter.unusedVariables false
set_option linter.unusedSimpArgs false
open Go.RowKit Go.Maps

theorem info9w : (Tryz.prog.info? 9).map (fun i => (i.zero, i.size, i.bytes)) = some (some (.string ⟨#[]⟩), 1, 16) := by kernel_rfl
/-- The bytes from f to i. -/
def seg (s : ByteArray) (f i : Nat) : Wd := ((bs s).drop f).take (i - f)
theorem bs_seg (s : ByteArray) (f i : Nat) : bs (s.extract f i) = seg s f i := by
  show (s.extract f i).data.toList = _
  rw [Lib.extract_data]
  rfl
theorem mkB_seg (s : ByteArray) (f i : Nat) : mkB (seg s f i) = s.extract f i := by rw [← bs_seg, mkB_bs]
theorem drop_at {s : ByteArray} {i : Nat} (h : i < s.size) : (bs s).drop i = (s[i]'h) :: (bs s).drop (i + 1) := List.drop_eq_getElem_cons (by rw [bs_length]; exact h)
theorem seg_nil (s : ByteArray) (f : Nat) : seg s f f = [] := by unfold seg; rw [Nat.sub_self]; rfl
theorem seg_snoc {s : ByteArray} {f i : Nat} (hf : f ≤ i) (h : i < s.size) : seg s f (i + 1) = seg s f i ++ [s[i]'h] := by
  unfold seg
  rw [show i + 1 - f = i - f + 1 by omega, List.take_add_one]
  congr 1
  rw [List.getElem?_drop, show f + (i - f) = i by omega, List.getElem?_eq_getElem (by rw [bs_length]; exact h)]
  rfl
theorem seg_len {s : ByteArray} {f i : Nat} (h : i ≤ s.size) : (seg s f i).length = i - f := by
  unfold seg
  rw [List.length_take, List.length_drop, bs_length]
  omega
theorem seg_all (s : ByteArray) (f : Nat) : seg s f s.size = (bs s).drop f := by
  unfold seg
  rw [List.take_of_length_le]
  rw [List.length_drop, bs_length]
  exact Nat.le_refl _
theorem seg_ne {s : ByteArray} {f i : Nat} (hf : f < i) (h : i ≤ s.size) : seg s f i ≠ [] := fun e => by
  have := seg_len (f := f) h
  rw [e] at this
  simp at this
  omega
theorem strs_snoc (l : List Wd) (x : Wd) : strsL (l ++ [x]) = strsL l ++ [.string (mkB x)] := by
  unfold strsL
  rw [List.map_append]
  rfl
theorem strs_len (l : List Wd) : (strsL l).length = l.length := by unfold strsL; rw [List.length_map]
theorem wrapN {i : Nat} (h : i ≤ 1099511627776) : IntKind.i64.wrap ((i : Int) + 1) = ((i + 1 : Nat) : Int) := by
  rw [IntKind.wrap_i64]
  omega
theorem drop_end {s : ByteArray} : (bs s).drop s.size = [] := List.drop_eq_nil_of_le (by rw [bs_length]; exact Nat.le_refl _)

set_option maxHeartbeats 4000000 in
set_option maxRecDepth 100000 in
/-- The document's lines. -/
theorem lines_c (s : ByteArray) (hs : s.size ≤ 1099511627776) (w : World) : Calls Tryz.prog 21 #[.string s] w fun e w' => ∃ a c, e = .returned (.slice a (linesB (bs s)).length c) ∧ Below w.heap.size w w' ∧ w'.ownsRow w.heap.size 9 1 (.slice a (linesB (bs s)).length c) (linesB (bs s)).length (strsL (linesB (bs s))) := by
  obtain ⟨LS, hLS⟩ : ∃ x, linesB (bs s) = x := ⟨_, rfl⟩
  rw [← lnR_lines] at hLS
  rw [← lnR_lines, hLS]
  have HLS := Lib.hid hLS
  clear hLS
  obtain ⟨i9, hi9, hz90, hz91, hz92⟩ := info_parts info9w
  go_enter Tryz.func21, Tryz.ntmps21
  go_wp2_with fail
  go_loopg [3, 4, 5] s.size (fun gk v3 v4 v5 wx => ∃ (f i m : Nat) (va : Option Addr) (vc : Nat) (ls : List Wd), v3 = .slice va m vc ∧ v4 = .int .i64 (f : Int) ∧ v5 = .int .i64 (i : Int) ∧ f ≤ i ∧ i ≤ s.size ∧ s.size ≤ i + gk ∧ m ≤ i ∧ Hid (Below w.heap.size w wx ∧ wx.ownsRow w.heap.size 9 1 (.slice va m vc) m (strsL ls) ∧ ls ++ lnR (seg s f i) ((bs s).drop i) = LS ∧ ls.length = m))
  case atStart => exact ⟨0, 0, 0, none, 0, [], rfl, rfl, rfl, Nat.le_refl _, Nat.zero_le _, by omega, Nat.le_refl _, Below.refl _ _, World.ownsRow_nil _ _ _ _, HLS.out, rfl⟩
  case round =>
    clear HLS
    obtain ⟨f, i, m, va, vc, ls, rfl, rfl, rfl, hfi, his, hik, hmi, HI⟩ := hrel
    obtain ⟨wa, rfl⟩ : ∃ x : World, x = wr := ⟨_, rfl⟩
    by_cases hlt : i < s.size
    · have hi1 : (i : Int) < (s.size : Int) := by omega
      have hd := drop_at hlt
      have q0 : (0 : Int) ≤ (f : Int) := by omega
      have q1 : (f : Int) ≤ (i : Int) := by omega
      have q2 : (i : Int) ≤ (s.size : Int) := by omega
      have q3 := wrapN (i := i) (by omega)
      by_cases hc : (s[i]'hlt) = 10
      · have qc : ((s[i].toNat : Int) == 10) = true := by rw [hc]; rfl
        have HN0 : Hid ((ls ++ [seg s f i]) ++ lnR (seg s (i + 1) (i + 1)) ((bs s).drop (i + 1)) = LS) := Lib.hid (by
          have h1 := HI.out.2.2.1
          rw [hd, lnR, if_pos hc] at h1
          rw [seg_nil, List.append_assoc]
          exact h1)
        obtain ⟨WA, hWA⟩ : ∃ WA, wa.alloc (.cells #[.string (s.extract f i)] 9) = WA := ⟨_, rfl⟩
        have HWA : Hid (Below w.heap.size w WA ∧ BoxN WA wa.heap.size [.string (s.extract f i)] 9 ∧ WA.ownsRow w.heap.size 9 1 (.slice va m vc) m (strsL ls) ∧ w.heap.size ≤ WA.heap.size) := by
          rw [← hWA]
          have hb := HI.out.1.trans (below_to (below1 wa (.cells #[.string (s.extract f i)] 9)) HI.out.1.size)
          exact ⟨hb, boxN_alloc _ _ _, ownsRow_below HI.out.2.1 (below1 _ _), hb.size⟩
        clear hd hc
        go_wp2_with (at_builtin; refine wpList_append_lies _ rfl (.tmp 16) (.tmp 21) 34 rfl w.heap.size 9 i9 (.string ⟨#[]⟩) 1 16 Tryz.underlying34 hi9 hz90 hz91 hz92 rfl (by decide) (.slice va m vc) m (strsL ls) rfl HWA.out.2.2.1 ⟨wa.heap.size, 0, none⟩ 1 1 [.string (s.extract f i)] rfl rfl (World.news_of_block (cs := #[.string (s.extract f i)]) (t := 9) (fr := (0, 0)) HWA.out.2.1) (by simp [Value.oneCell']) (by omega) (by unfold maxLen; omega) (by omega) HWA.out.2.2.2 WA.heap.size rfl ?_; intro g9 cap9 w9 hown9 hgrow9 hat9 hlt9)
        have HN : Hid (Below w.heap.size w w9 ∧ w9.ownsRow w.heap.size 9 1 (.slice (some ⟨g9, 0, none⟩) (m + 1) cap9) (m + 1) (strsL (ls ++ [seg s f i]))) := by
          refine ⟨HWA.out.1.trans (grown_own HWA.out.2.2.1 HWA.out.2.2.2 hgrow9), ?_⟩
          rw [strs_snoc, mkB_seg]
          exact hown9
        clear hown9 hgrow9 hat9 hlt9
        go_roundg (gk - 1)
        case measure => omega
        case rel => exact ⟨i + 1, i + 1, m + 1, some ⟨g9, 0, none⟩, cap9, ls ++ [seg s f i], rfl, by go_num, by go_num, Nat.le_refl _, by omega, by omega, by omega, HN.out.1, HN.out.2, HN0.out, by rw [List.length_append, HI.out.2.2.2]; rfl⟩
      · have qc : ((s[i].toNat : Int) == 10) = false := u8b hc
        have HN0 : Hid (ls ++ lnR (seg s f (i + 1)) ((bs s).drop (i + 1)) = LS) := Lib.hid (by
          have h1 := HI.out.2.2.1
          rw [hd, lnR, if_neg hc] at h1
          rw [seg_snoc hfi hlt]
          exact h1)
        clear hd hc
        go_wp2_with fail
        go_roundg (gk - 1)
        case measure => omega
        case rel => exact ⟨f, i + 1, m, va, vc, ls, rfl, rfl, by go_num, by omega, by omega, by omega, by omega, HI.out.1, HI.out.2.1, HN0.out, HI.out.2.2.2⟩
    · obtain rfl : i = s.size := by omega
      by_cases hf : f < s.size
      · have q0 : (f : Int) < (s.size : Int) := by omega
        have q1 : (0 : Int) ≤ (f : Int) := by omega
        have q2 : (f : Int) ≤ (s.size : Int) := by omega
        have HN0 : Hid (ls ++ [seg s f s.size] = LS) := Lib.hid (by
          have h1 := HI.out.2.2.1
          rw [drop_end, lnR, if_neg (seg_ne hf (Nat.le_refl _))] at h1
          exact h1)
        obtain ⟨WA, hWA⟩ : ∃ WA, wa.alloc (.cells #[.string (s.extract f s.size)] 9) = WA := ⟨_, rfl⟩
        have HWA : Hid (Below w.heap.size w WA ∧ BoxN WA wa.heap.size [.string (s.extract f s.size)] 9 ∧ WA.ownsRow w.heap.size 9 1 (.slice va m vc) m (strsL ls) ∧ w.heap.size ≤ WA.heap.size) := by
          rw [← hWA]
          have hb := HI.out.1.trans (below_to (below1 wa (.cells #[.string (s.extract f s.size)] 9)) HI.out.1.size)
          exact ⟨hb, boxN_alloc _ _ _, ownsRow_below HI.out.2.1 (below1 _ _), hb.size⟩
        go_wp2_with (at_builtin; refine wpList_append_lies _ rfl (.tmp 29) (.tmp 33) 34 rfl w.heap.size 9 i9 (.string ⟨#[]⟩) 1 16 Tryz.underlying34 hi9 hz90 hz91 hz92 rfl (by decide) (.slice va m vc) m (strsL ls) rfl HWA.out.2.2.1 ⟨wa.heap.size, 0, none⟩ 1 1 [.string (s.extract f s.size)] rfl rfl (World.news_of_block (cs := #[.string (s.extract f s.size)]) (t := 9) (fr := (0, 0)) HWA.out.2.1) (by simp [Value.oneCell']) (by omega) (by unfold maxLen; omega) (by omega) HWA.out.2.2.2 WA.heap.size rfl ?_; intro g9 cap9 w9 hown9 hgrow9 hat9 hlt9)
        have HN : Hid (Below w.heap.size w w9 ∧ w9.ownsRow w.heap.size 9 1 (.slice (some ⟨g9, 0, none⟩) (m + 1) cap9) (m + 1) (strsL LS) ∧ m + 1 = LS.length) := by
          refine ⟨HWA.out.1.trans (grown_own HWA.out.2.2.1 HWA.out.2.2.2 hgrow9), ?_, ?_⟩
          · rw [← HN0.out, strs_snoc, mkB_seg]
            exact hown9
          · rw [← HN0.out, List.length_append, HI.out.2.2.2]; rfl
        clear hown9 hgrow9 hat9 hlt9
        go_ret
        refine ⟨some ⟨g9, 0, none⟩, cap9, ?_, HN.out.1, ?_⟩
        · rw [← HN.out.2.2]; rfl
        · rw [← HN.out.2.2]; exact HN.out.2.1
      · have q0 : ¬ (f : Int) < (s.size : Int) := by omega
        have HN0 : Hid (ls = LS) := Lib.hid (by
          have h1 := HI.out.2.2.1
          obtain rfl : f = s.size := by omega
          rw [drop_end, seg_nil, lnR, if_pos rfl, List.append_nil] at h1
          exact h1)
        go_wp2_with fail
        go_ret
        have hm := HI.out.2.2.2
        rw [HN0.out] at hm
        refine ⟨va, vc, by rw [hm]; rfl, HI.out.1, ?_⟩
        rw [hm, ← HN0.out]
        exact HI.out.2.1
set_option maxHeartbeats 4000000 in
set_option maxRecDepth 100000 in
/-- A value's words. -/
theorem fields_c (s : ByteArray) (hs : s.size ≤ 1099511627776) (w : World) : Calls Tryz.prog 92 #[.string s] w fun e w' => ∃ a c, e = .returned (.slice a (fieldsS (bs s)).length c) ∧ Below w.heap.size w w' ∧ w'.ownsRow w.heap.size 9 1 (.slice a (fieldsS (bs s)).length c) (fieldsS (bs s)).length (strsL (fieldsS (bs s))) := by
  obtain ⟨LS, hLS⟩ : ∃ x, fieldsS (bs s) = x := ⟨_, rfl⟩
  rw [← fldR_fields] at hLS
  rw [← fldR_fields, hLS]
  have HLS := Lib.hid hLS
  clear hLS
  obtain ⟨i9, hi9, hz90, hz91, hz92⟩ := info_parts info9w
  go_enter Tryz.func92, Tryz.ntmps92
  go_wp2_with fail
  go_loopg [3, 4, 5] (s.size + 1) (fun gk v3 v4 v5 wx => ∃ (f i m : Nat) (va : Option Addr) (vc : Nat) (ls : List Wd), v3 = .slice va m vc ∧ v4 = .int .i64 (f : Int) ∧ v5 = .int .i64 (i : Int) ∧ f ≤ i ∧ i ≤ s.size + 1 ∧ s.size + 1 ≤ i + gk ∧ m ≤ i ∧ Hid (Below w.heap.size w wx ∧ wx.ownsRow w.heap.size 9 1 (.slice va m vc) m (strsL ls) ∧ (i ≤ s.size → ls ++ fldR (seg s f i) ((bs s).drop i) = LS) ∧ ls.length = m ∧ (¬ i ≤ s.size → ls = LS)))
  case atStart => exact ⟨0, 0, 0, none, 0, [], rfl, rfl, rfl, Nat.le_refl _, Nat.zero_le _, by omega, Nat.le_refl _, Below.refl _ _, World.ownsRow_nil _ _ _ _, fun _ => HLS.out, rfl, fun h => absurd (Nat.zero_le _) h⟩
  case round =>
    clear HLS
    obtain ⟨f, i, m, va, vc, ls, rfl, rfl, rfl, hfi, his, hik, hmi, HI⟩ := hrel
    obtain ⟨wa, rfl⟩ : ∃ x : World, x = wr := ⟨_, rfl⟩
    by_cases hle : i ≤ s.size
    · have hi1 : (i : Int) ≤ (s.size : Int) := by omega
      have q3 := wrapN (i := i) (by omega)
      have q4 : (0 : Int) ≤ (f : Int) := by omega
      have q5 : (f : Int) ≤ (i : Int) := by omega
      have HI0 := Lib.hid (HI.out.2.2.1 hle)
      have hways : (((i : Int) == (s.size : Int)) = true ∧ Hid (i = s.size)) ∨ (((i : Int) == (s.size : Int)) = false ∧ ∃ hlt : i < s.size, True) := by
        by_cases h : i = s.size
        · exact .inl ⟨by rw [h]; simp, h⟩
        · exact .inr ⟨beq_eq_false_iff_ne.2 (by omega), by omega, trivial⟩
      by_cases hfi2 : f < i
      · have q6 : (f : Int) < (i : Int) := by omega
        have hcut : ∀ l, fldR (seg s f i) l = fldR (seg s f i) l := fun _ => rfl
        rcases hways with ⟨hw, HE⟩ | ⟨hw, hlt, _⟩
        · have HN0 : Hid (ls ++ [seg s f i] = LS) := Lib.hid (by
            have h1 := HI0.out
            have h2 : (bs s).drop i = [] := by rw [HE.out]; exact drop_end
            rw [h2, fldR, if_neg (seg_ne hfi2 hle)] at h1
            exact h1)
          obtain ⟨WA, hWA⟩ : ∃ WA, wa.alloc (.cells #[.string (s.extract f i)] 9) = WA := ⟨_, rfl⟩
          have HWA : Hid (Below w.heap.size w WA ∧ BoxN WA wa.heap.size [.string (s.extract f i)] 9 ∧ WA.ownsRow w.heap.size 9 1 (.slice va m vc) m (strsL ls) ∧ w.heap.size ≤ WA.heap.size) := by
            rw [← hWA]
            have hb := HI.out.1.trans (below_to (below1 wa (.cells #[.string (s.extract f i)] 9)) HI.out.1.size)
            exact ⟨hb, boxN_alloc _ _ _, ownsRow_below HI.out.2.1 (below1 _ _), hb.size⟩
          clear hcut
          go_wp2_with (at_builtin; refine wpList_append_lies _ rfl (.tmp 25) (.tmp 30) 34 rfl w.heap.size 9 i9 (.string ⟨#[]⟩) 1 16 Tryz.underlying34 hi9 hz90 hz91 hz92 rfl (by decide) (.slice va m vc) m (strsL ls) rfl HWA.out.2.2.1 ⟨wa.heap.size, 0, none⟩ 1 1 [.string (s.extract f i)] rfl rfl (World.news_of_block (cs := #[.string (s.extract f i)]) (t := 9) (fr := (0, 0)) HWA.out.2.1) (by simp [Value.oneCell']) (by omega) (by unfold maxLen; omega) (by omega) HWA.out.2.2.2 WA.heap.size rfl ?_; intro g9 cap9 w9 hown9 hgrow9 hat9 hlt9)
          have HN : Hid (Below w.heap.size w w9 ∧ w9.ownsRow w.heap.size 9 1 (.slice (some ⟨g9, 0, none⟩) (m + 1) cap9) (m + 1) (strsL (ls ++ [seg s f i]))) := by
            refine ⟨HWA.out.1.trans (grown_own HWA.out.2.2.1 HWA.out.2.2.2 hgrow9), ?_⟩
            rw [strs_snoc, mkB_seg]
            exact hown9
          clear hown9 hgrow9 hat9 hlt9
          go_roundg (gk - 1)
          case measure => omega
          case rel => exact ⟨i + 1, i + 1, m + 1, some ⟨g9, 0, none⟩, cap9, ls ++ [seg s f i], rfl, by go_num, by go_num, Nat.le_refl _, by omega, by omega, by omega, HN.out.1, HN.out.2, fun h => absurd h (by rw [HE.out]; omega), by rw [List.length_append, HI.out.2.2.2.1]; rfl, fun _ => HN0.out⟩
        · have hi2 : (i : Int) < (s.size : Int) := by omega
          have hd := drop_at hlt
          by_cases hc : (s[i]'hlt) = 32
          · have qc : ((s[i].toNat : Int) == 32) = true := by rw [hc]; rfl
            have HN0 : Hid ((ls ++ [seg s f i]) ++ fldR (seg s (i + 1) (i + 1)) ((bs s).drop (i + 1)) = LS) := Lib.hid (by
              have h1 := HI0.out
              rw [hd, fldR, if_pos hc, if_neg (seg_ne hfi2 hle)] at h1
              rw [seg_nil, List.append_assoc]
              exact h1)
            obtain ⟨WA, hWA⟩ : ∃ WA, wa.alloc (.cells #[.string (s.extract f i)] 9) = WA := ⟨_, rfl⟩
            have HWA : Hid (Below w.heap.size w WA ∧ BoxN WA wa.heap.size [.string (s.extract f i)] 9 ∧ WA.ownsRow w.heap.size 9 1 (.slice va m vc) m (strsL ls) ∧ w.heap.size ≤ WA.heap.size) := by
              rw [← hWA]
              have hb := HI.out.1.trans (below_to (below1 wa (.cells #[.string (s.extract f i)] 9)) HI.out.1.size)
              exact ⟨hb, boxN_alloc _ _ _, ownsRow_below HI.out.2.1 (below1 _ _), hb.size⟩
            clear hcut hd hc
            go_wp2_with (at_builtin; refine wpList_append_lies _ rfl (.tmp 25) (.tmp 30) 34 rfl w.heap.size 9 i9 (.string ⟨#[]⟩) 1 16 Tryz.underlying34 hi9 hz90 hz91 hz92 rfl (by decide) (.slice va m vc) m (strsL ls) rfl HWA.out.2.2.1 ⟨wa.heap.size, 0, none⟩ 1 1 [.string (s.extract f i)] rfl rfl (World.news_of_block (cs := #[.string (s.extract f i)]) (t := 9) (fr := (0, 0)) HWA.out.2.1) (by simp [Value.oneCell']) (by omega) (by unfold maxLen; omega) (by omega) HWA.out.2.2.2 WA.heap.size rfl ?_; intro g9 cap9 w9 hown9 hgrow9 hat9 hlt9)
            have HN : Hid (Below w.heap.size w w9 ∧ w9.ownsRow w.heap.size 9 1 (.slice (some ⟨g9, 0, none⟩) (m + 1) cap9) (m + 1) (strsL (ls ++ [seg s f i]))) := by
              refine ⟨HWA.out.1.trans (grown_own HWA.out.2.2.1 HWA.out.2.2.2 hgrow9), ?_⟩
              rw [strs_snoc, mkB_seg]
              exact hown9
            clear hown9 hgrow9 hat9 hlt9
            go_roundg (gk - 1)
            case measure => omega
            case rel => exact ⟨i + 1, i + 1, m + 1, some ⟨g9, 0, none⟩, cap9, ls ++ [seg s f i], rfl, by go_num, by go_num, Nat.le_refl _, by omega, by omega, by omega, HN.out.1, HN.out.2, fun _ => HN0.out, by rw [List.length_append, HI.out.2.2.2.1]; rfl, fun h => absurd hlt (by omega)⟩
          · have qc : ((s[i].toNat : Int) == 32) = false := u8b hc
            have HN0 : Hid (ls ++ fldR (seg s f (i + 1)) ((bs s).drop (i + 1)) = LS) := Lib.hid (by
              have h1 := HI0.out
              rw [hd, fldR, if_neg hc] at h1
              rw [seg_snoc hfi hlt]
              exact h1)
            clear hcut hd hc
            go_wp2_with fail
            go_roundg (gk - 1)
            case measure => omega
            case rel => exact ⟨f, i + 1, m, va, vc, ls, rfl, rfl, by go_num, by omega, by omega, by omega, by omega, HI.out.1, HI.out.2.1, fun _ => HN0.out, HI.out.2.2.2.1, fun h => absurd hlt (by omega)⟩
      · have q6 : ¬ (f : Int) < (i : Int) := by omega
        obtain rfl : f = i := by omega
        rcases hways with ⟨hw, HE⟩ | ⟨hw, hlt, _⟩
        · have HN0 : Hid (ls = LS) := Lib.hid (by
            have h1 := HI0.out
            have h2 : (bs s).drop f = [] := by rw [HE.out]; exact drop_end
            rw [h2, seg_nil, fldR, if_pos rfl, List.append_nil] at h1
            exact h1)
          go_wp2_with fail
          go_roundg (gk - 1)
          case measure => omega
          case rel => exact ⟨f + 1, f + 1, m, va, vc, ls, rfl, by go_num, by go_num, Nat.le_refl _, by omega, by omega, by omega, HI.out.1, HI.out.2.1, fun h => absurd h (by rw [HE.out]; omega), HI.out.2.2.2.1, fun _ => HN0.out⟩
        · have hi2 : (f : Int) < (s.size : Int) := by omega
          have hd := drop_at hlt
          by_cases hc : (s[f]'hlt) = 32
          · have qc : ((s[f].toNat : Int) == 32) = true := by rw [hc]; rfl
            have HN0 : Hid (ls ++ fldR (seg s (f + 1) (f + 1)) ((bs s).drop (f + 1)) = LS) := Lib.hid (by
              have h1 := HI0.out
              rw [hd, fldR, if_pos hc, if_pos (seg_nil s f)] at h1
              rw [seg_nil]
              exact h1)
            clear hd hc
            go_wp2_with fail
            go_roundg (gk - 1)
            case measure => omega
            case rel => exact ⟨f + 1, f + 1, m, va, vc, ls, rfl, by go_num, by go_num, Nat.le_refl _, by omega, by omega, by omega, HI.out.1, HI.out.2.1, fun _ => HN0.out, HI.out.2.2.2.1, fun h => absurd hlt (by omega)⟩
          · have qc : ((s[f].toNat : Int) == 32) = false := u8b hc
            have HN0 : Hid (ls ++ fldR (seg s f (f + 1)) ((bs s).drop (f + 1)) = LS) := Lib.hid (by
              have h1 := HI0.out
              rw [hd, fldR, if_neg hc] at h1
              rw [seg_snoc hfi hlt]
              exact h1)
            clear hd hc
            go_wp2_with fail
            go_roundg (gk - 1)
            case measure => omega
            case rel => exact ⟨f, f + 1, m, va, vc, ls, rfl, rfl, by go_num, by omega, by omega, by omega, by omega, HI.out.1, HI.out.2.1, fun _ => HN0.out, HI.out.2.2.2.1, fun h => absurd hlt (by omega)⟩
    · have q0 : ¬ (i : Int) ≤ (s.size : Int) := by omega
      have HN0 := Lib.hid (HI.out.2.2.2.2 hle)
      go_wp2_with fail
      go_ret
      have hm := HI.out.2.2.2.1
      rw [HN0.out] at hm
      refine ⟨va, vc, by rw [hm]; rfl, HI.out.1, ?_⟩
      rw [hm, ← HN0.out]
      exact HI.out.2.1
/-- What the document says of a tag. -/
def RTagP (w : World) (o : Option (Wd × Wd)) (e : Ending) (w' : World) : Prop := Below w.heap.size w w' ∧ match o with
  | some (a, b) => e = .returned (.tuple #[.string (mkB a), .string (mkB b), .bool true])
  | none => ∃ a b, e = .returned (.tuple #[.string a, .string b, .bool false]) ∧ a.size ≤ maxLen ∧ b.size ≤ maxLen
theorem not_lay {c : UInt8} (h1 : c ≠ 32) (h2 : c ≠ 9) : layB c = false := by unfold layB; simp [h1, h2]
set_option maxHeartbeats 4000000 in
set_option maxRecDepth 100000 in
/-- The document's tag. -/
theorem rtag_c (s : ByteArray) (hs : s.size ≤ 1099511627776) (h1 : 1 ≤ s.size) (w : World) : Calls Tryz.prog 23 #[.string s] w (RTagP w (tagOf (bs s))) := by
  obtain ⟨POST, hP⟩ : ∃ x, RTagP w (tagOf (bs s)) = x := ⟨_, rfl⟩
  have hm : 1099511627776 ≤ maxLen := by decide
  have HNO : Hid (tagR [] ((bs s).drop 1) = none → ∀ w', Below w.heap.size w w' → POST (.returned (.tuple #[.string ⟨#[]⟩, .string ⟨#[]⟩, .bool false])) w') := Lib.hid fun h w' hb => by
    rw [← hP, tagOf_R, h]
    exact ⟨hb, _, _, rfl, by decide, by decide⟩
  have HYES : Hid (∀ i, 1 ≤ i → i < s.size → tagR [] ((bs s).drop 1) = some (seg s 1 i, (bs s).drop (i + 1)) → ∀ w', Below w.heap.size w w' → POST (.returned (.tuple #[.string (s.extract 1 i), .string (s.extract (i + 1) s.size), .bool (decide (1 < i))])) w') := Lib.hid fun i hi hl h w' hb => by
    rw [← hP, tagOf_R, h]
    refine ⟨hb, ?_⟩
    by_cases h2 : 1 < i
    · simp only [if_neg (seg_ne h2 (Nat.le_of_lt hl)), decide_eq_true h2]
      rw [mkB_seg, mkB_drop]
    · obtain rfl : i = 1 := by omega
      simp only [seg_nil, if_pos]
      refine ⟨_, _, rfl, ?_, ?_⟩ <;> rw [ByteArray.size_extract] <;> omega
  rw [hP]
  clear hP hm
  go_enter Tryz.func23, Tryz.ntmps23
  go_wp2_with fail
  go_loopg [5] s.size (fun gk v5 wx => ∃ i : Nat, v5 = .int .i64 (i : Int) ∧ 1 ≤ i ∧ i ≤ s.size ∧ s.size ≤ i + gk ∧ Hid (wx = w ∧ tagR (seg s 1 i) ((bs s).drop i) = tagR [] ((bs s).drop 1)))
  case atStart => exact ⟨1, rfl, Nat.le_refl _, h1, by omega, rfl, by rw [seg_nil]⟩
  case round =>
    obtain ⟨i, rfl, hi1, his, hik, HI⟩ := hrel
    by_cases hlt : i < s.size
    · have hi2 : (i : Int) < (s.size : Int) := by omega
      have hd := drop_at hlt
      have q3 := wrapN (i := i) (by omega)
      by_cases hc1 : (s[i]'hlt) = 32
      · have qc : ((s[i].toNat : Int) == 32) = true := by rw [hc1]; rfl
        have HF : Hid (POST (.returned (.tuple #[.string ⟨#[]⟩, .string ⟨#[]⟩, .bool false])) wr) := Lib.hid (HNO.out (by rw [← HI.out.2, hd]; exact tagR_lay _ _ (by rw [hc1]; rfl)) _ (by rw [HI.out.1]; exact Below.refl _ _))
        clear hd hc1
        go_wp2_with fail
        exact bodyPost_ret (v := .tuple #[.string ⟨#[]⟩, .string ⟨#[]⟩, .bool false]) (by simp [results, Tryz.results23, go_sem]) rfl HF.out
      · by_cases hc2 : (s[i]'hlt) = 9
        · have qc1 : ((s[i].toNat : Int) == 32) = false := u8b hc1
          have qc : ((s[i].toNat : Int) == 9) = true := by rw [hc2]; rfl
          have HF : Hid (POST (.returned (.tuple #[.string ⟨#[]⟩, .string ⟨#[]⟩, .bool false])) wr) := Lib.hid (HNO.out (by rw [← HI.out.2, hd]; exact tagR_lay _ _ (by rw [hc2]; rfl)) _ (by rw [HI.out.1]; exact Below.refl _ _))
          clear hd hc1 hc2
          go_wp2_with fail
          exact bodyPost_ret (v := .tuple #[.string ⟨#[]⟩, .string ⟨#[]⟩, .bool false]) (by simp [results, Tryz.results23, go_sem]) rfl HF.out
        · have qc1 : ((s[i].toNat : Int) == 32) = false := u8b hc1
          have qc2 : ((s[i].toNat : Int) == 9) = false := u8b hc2
          by_cases hc3 : (s[i]'hlt) = 58
          · have qc : ((s[i].toNat : Int) == 58) = true := by rw [hc3]; rfl
            have p0 : (1 : Int) ≤ (i : Int) := by omega
            have p1 : (i : Int) ≤ (s.size : Int) := by omega
            have p2 : (0 : Int) ≤ ((i + 1 : Nat) : Int) := by omega
            have p3 : ((i + 1 : Nat) : Int) ≤ (s.size : Int) := by omega
            have HF : Hid (∀ W : World, Below w.heap.size w W → POST (.returned (.tuple #[.string (s.extract 1 i), .string (s.extract (i + 1) s.size), .bool (decide (1 < i))])) W) := Lib.hid fun W hW => HYES.out i hi1 hlt (by rw [← HI.out.2, hd, hc3]; exact tagR_col _ _) W hW
            have HW : Hid (wr = w) := HI.out.1
            clear hd hc1 hc2 hc3
            go_upto_region 7 with fail
            go_quiet (fail)
            go_wp2_with fail
            refine bodyPost_ret (v := .tuple #[.string (s.extract 1 i), .string (s.extract (i + 1) s.size), .bool (decide (1 < i))]) (by simp [results, Tryz.results23, go_sem]; omega) rfl (HF.out _ ?_)
            rw [HW.out]
            first | exact Below.refl _ _ | exact below_dr1 (Below.refl _ _) | exact ⟨rfl, rfl, rfl, Nat.le_refl _, fun _ _ => rfl⟩
          · have qc : ((s[i].toNat : Int) == 58) = false := u8b hc3
            have HN0 : Hid (tagR (seg s 1 (i + 1)) ((bs s).drop (i + 1)) = tagR [] ((bs s).drop 1)) := Lib.hid (by
              rw [← HI.out.2, hd, seg_snoc hi1 hlt]
              exact (tagR_more _ _ (not_lay hc1 hc2) hc3).symm)
            clear hd hc1 hc2 hc3
            go_wp2_with fail
            go_roundg (gk - 1)
            case measure => omega
            case rel => exact ⟨i + 1, by go_num, by omega, by omega, by omega, HI.out.1, HN0.out⟩
    · obtain rfl : i = s.size := by omega
      have HF : Hid (POST (.returned (.tuple #[.string ⟨#[]⟩, .string ⟨#[]⟩, .bool false])) wr) := Lib.hid (HNO.out (by rw [← HI.out.2, drop_end]; exact tagR_nil _) _ (by rw [HI.out.1]; exact Below.refl _ _))
      go_wp2_with fail
      exact bodyPost_ret (v := .tuple #[.string ⟨#[]⟩, .string ⟨#[]⟩, .bool false]) (by simp [results, Tryz.results23, go_sem]) rfl HF.out
end Go.Proofs.YtjcefgjgjhdbpaaGreatDoor
namespace Go.Proofs.YtjcefgjgjhdbpaaGreatDoor
set_option linter.unusedVariables false
set_option linter.unusedSimpArgs false
open Go.RowKit Go.Maps

set_option maxHeartbeats 1000000 in
set_option maxRecDepth 100000 in
/-- A word, or none. -/
theorem at_c (ws : List Wd) (a : Option Addr) (c n : Nat) (hn : n ≤ 1099511627790) (w : World) {L : Nat} (h : w.ownsRow L 9 1 (.slice a ws.length c) ws.length (strsL ws)) : Calls Tryz.prog 142 #[.slice a ws.length c, .int .i64 (n : Int)] w fun e w' => e = .returned (.string (mkB (hd (ws.drop n)))) ∧ w = w' := by
  by_cases hl : n < ws.length
  · have g1 : ¬ (ws.length : Int) ≤ (n : Int) := by omega
    have g2 : (n : Int) < (ws.length : Int) := by omega
    rcases ownsRow_form h with ⟨_, h0⟩ | ⟨g, cap, e, hcap, _⟩
    · omega
    · injection e with e1 _ e3
      subst e1 e3
      have hc : w.cell? ⟨g, n, none⟩ = some (.string (mkB ws[n])) := ownsRow_cell h (by unfold strsL; simp [hl])
      have hh : hd (ws.drop n) = ws[n] := by
        rw [List.drop_eq_getElem_cons hl]
        rfl
      rw [hh]
      obtain ⟨x, hxe⟩ : ∃ x, ws[n] = x := ⟨_, rfl⟩
      rw [hxe] at hc ⊢
      clear h hh hxe hl hcap
      generalize ws.length = q at g1 g2 ⊢
      go_enter Tryz.func142, Tryz.ntmps142
      go_wp2_with fail
      go_ret
      exact ⟨rfl, rfl⟩
  · have g1 : (ws.length : Int) ≤ (n : Int) := by omega
    have hh : mkB (hd (ws.drop n)) = ⟨#[]⟩ := by
      rw [List.drop_eq_nil_of_le (by omega)]
      rfl
    rw [hh]
    clear h hh hl
    generalize ws.length = q at g1 ⊢
    go_enter Tryz.func142, Tryz.ntmps142
    go_wp2_with fail
    go_ret
    exact ⟨rfl, rfl⟩
set_option maxHeartbeats 8000000 in
set_option maxRecDepth 100000 in
/-- The words of a dependency's text. -/
theorem rwords_c (s : ByteArray) (hs : s.size ≤ 1099511627776) (w : World) : Calls Tryz.prog 131 #[.string s] w fun e w' => ∃ a c, e = .returned (.slice a (wordsB (bs s)).length c) ∧ Below w.heap.size w w' ∧ w'.ownsRow w.heap.size 9 1 (.slice a (wordsB (bs s)).length c) (wordsB (bs s)).length (strsL (wordsB (bs s))) := by
  obtain ⟨LS, hLS⟩ : ∃ x, wordsB (bs s) = x := ⟨_, rfl⟩
  rw [hLS]
  have HLS := Lib.hid hLS
  clear hLS
  obtain ⟨i9, hi9, hz90, hz91, hz92⟩ := info_parts info9w
  go_enter Tryz.func131, Tryz.ntmps131
  go_wp2_with fail
  go_loopg [3, 4] s.size (fun gk v3 v4 wx => ∃ (i m : Nat) (va : Option Addr) (vc : Nat) (ls : List Wd), v3 = .slice va m vc ∧ v4 = .int .i64 (i : Int) ∧ i ≤ s.size ∧ s.size ≤ i + gk ∧ m ≤ i ∧ Hid (Below w.heap.size w wx ∧ wx.ownsRow w.heap.size 9 1 (.slice va m vc) m (strsL ls) ∧ ls ++ wordsB ((bs s).drop i) = LS ∧ ls.length = m))
  case atStart => exact ⟨0, 0, none, 0, [], rfl, rfl, Nat.zero_le _, by omega, Nat.le_refl _, Below.refl _ _, World.ownsRow_nil _ _ _ _, HLS.out, rfl⟩
  case round =>
    clear HLS
    obtain ⟨i, m, va, vc, ls, rfl, rfl, his, hik, hmi, HI⟩ := hrel
    obtain ⟨wa, rfl⟩ : ∃ x : World, x = wr := ⟨_, rfl⟩
    obtain ⟨gJ, rfl⟩ : ∃ x : Nat, x = gk := ⟨_, rfl⟩
    by_cases hlt : i < s.size
    · have hi1 : (i : Int) < (s.size : Int) := by omega
      have hd := drop_at hlt
      have q3 := wrapN (i := i) (by omega)
      by_cases hc1 : (s[i]'hlt) = 32
      · have qc : ((s[i].toNat : Int) == 32) = true := by rw [hc1]; rfl
        have HN0 : Hid (ls ++ wordsB ((bs s).drop (i + 1)) = LS) := Lib.hid (by
          have h1 := HI.out.2.2.1
          rw [hd, hc1, wordsB_blank] at h1
          exact h1)
        clear hd hc1
        go_wp2_with fail
        go_roundg (gJ - 1)
        case measure => omega
        case rel => exact ⟨i + 1, m, va, vc, ls, rfl, by go_num, by omega, by omega, by omega, HI.out.1, HI.out.2.1, HN0.out, HI.out.2.2.2⟩
      · have qc1 : ((s[i].toNat : Int) == 32) = false := u8b hc1
        by_cases hp : (s[i]'hlt) = 40 ∨ (s[i]'hlt) = 41
        · have HN0 : Hid ((ls ++ [seg s i (i + 1)]) ++ wordsB ((bs s).drop (i + 1)) = LS) := Lib.hid (by
            have h1 := HI.out.2.2.1
            rw [hd, wordsB_par _ hp] at h1
            rw [seg_snoc (Nat.le_refl i) hlt, seg_nil, List.append_assoc]
            exact h1)
          have p0 : (0 : Int) ≤ (i : Int) := by omega
          have p1 : (i : Int) ≤ ((i + 1 : Nat) : Int) := by omega
          have p2 : ((i + 1 : Nat) : Int) ≤ (s.size : Int) := by omega
          obtain ⟨WA, hWA⟩ : ∃ WA, wa.alloc (.cells #[.string (s.extract i (i + 1))] 9) = WA := ⟨_, rfl⟩
          have HWA : Hid (Below w.heap.size w WA ∧ BoxN WA wa.heap.size [.string (s.extract i (i + 1))] 9 ∧ WA.ownsRow w.heap.size 9 1 (.slice va m vc) m (strsL ls) ∧ w.heap.size ≤ WA.heap.size) := by
            rw [← hWA]
            have hb := HI.out.1.trans (below_to (below1 wa (.cells #[.string (s.extract i (i + 1))] 9)) HI.out.1.size)
            exact ⟨hb, boxN_alloc _ _ _, ownsRow_below HI.out.2.1 (below1 _ _), hb.size⟩
          have hq : ((s[i].toNat : Int) == 40) = true ∨ (((s[i].toNat : Int) == 40) = false ∧ ((s[i].toNat : Int) == 41) = true) := by
            rcases hp with h | h
            · exact .inl (by rw [h]; rfl)
            · exact .inr ⟨by rw [h]; rfl, by rw [h]; rfl⟩
          clear hd hc1 hp
          rcases hq with h40 | ⟨h40, h41⟩
          all_goals
            go_wp2_with (at_builtin; refine wpList_append_lies _ rfl (.tmp 27) (.tmp 33) 34 rfl w.heap.size 9 i9 (.string ⟨#[]⟩) 1 16 Tryz.underlying34 hi9 hz90 hz91 hz92 rfl (by decide) (.slice va m vc) m (strsL ls) rfl HWA.out.2.2.1 ⟨wa.heap.size, 0, none⟩ 1 1 [.string (s.extract i (i + 1))] rfl rfl (World.news_of_block (cs := #[.string (s.extract i (i + 1))]) (t := 9) (fr := (0, 0)) HWA.out.2.1) (by simp [Value.oneCell']) (by omega) (by unfold maxLen; omega) (by omega) HWA.out.2.2.2 WA.heap.size rfl ?_; intro g9 cap9 w9 hown9 hgrow9 hat9 hlt9)
            have HN : Hid (Below w.heap.size w w9 ∧ w9.ownsRow w.heap.size 9 1 (.slice (some ⟨g9, 0, none⟩) (m + 1) cap9) (m + 1) (strsL (ls ++ [seg s i (i + 1)]))) := by
              refine ⟨HWA.out.1.trans (grown_own HWA.out.2.2.1 HWA.out.2.2.2 hgrow9), ?_⟩
              rw [strs_snoc, mkB_seg]
              exact hown9
            clear hown9 hgrow9 hat9 hlt9
            go_roundg (gJ - 1)
            case measure => omega
            case rel => exact ⟨i + 1, m + 1, some ⟨g9, 0, none⟩, cap9, ls ++ [seg s i (i + 1)], rfl, by go_num, by omega, by omega, by omega, HN.out.1, HN.out.2, HN0.out, by rw [List.length_append, HI.out.2.2.2]; rfl⟩
        · have h40 : (s[i]'hlt) ≠ 40 := fun h => hp (.inl h)
          have h41 : (s[i]'hlt) ≠ 41 := fun h => hp (.inr h)
          have HIw : Hid (ls ++ (((bs s).drop i).take (scanW 0 ((bs s).drop i)) :: wordsB (((bs s).drop i).drop (scanW 0 ((bs s).drop i)))) = LS) := Lib.hid (by
            have h1 := HI.out.2.2.1
            have h2 : wordsB ((bs s).drop i) = ((bs s).drop i).take (scanW 0 ((bs s).drop i)) :: wordsB (((bs s).drop i).drop (scanW 0 ((bs s).drop i))) := by
              rw [hd]
              exact wordsB_word _ hc1 h40 h41
            rw [h2] at h1
            exact h1)
          have HS1 : Hid (1 ≤ scanW 0 ((bs s).drop i)) := Lib.hid (by
            rw [hd, scanW_go _ hc1 (fun h => h41 h.1)]
            omega)
          have qc2 : ((s[i].toNat : Int) == 40) = false := u8b h40
          have qc3 : ((s[i].toNat : Int) == 41) = false := u8b h41
          clear hd hc1 hp h40 h41
          go_wp2_with fail
          go_loopg [4, 6] s.size (fun gk v4 v6 wx => ∃ (j o : Nat), v4 = .int .i64 (j : Int) ∧ v6 = .int .i64 (o : Int) ∧ i ≤ j ∧ j ≤ s.size ∧ s.size ≤ j + gk ∧ o ≤ j ∧ wa = wx ∧ Hid (j - i + scanW o ((bs s).drop j) = scanW 0 ((bs s).drop i)))
          case atStart => exact ⟨i, 0, rfl, rfl, Nat.le_refl _, by omega, by omega, Nat.zero_le _, rfl, Lib.hid (by rw [Nat.sub_self, Nat.zero_add])⟩
          case round =>
            obtain ⟨j, o, rfl, rfl, hij1, hjs, hjk, hoj, rfl, HJ⟩ := hrel
            by_cases hj : j < s.size
            · have hj1 : (j : Int) < (s.size : Int) := by omega
              have hd := drop_at hj
              have q3 := wrapN (i := j) (by omega)
              by_cases hc1 : (s[j]'hj) = 32
              · have qc : ((s[j].toNat : Int) == 32) = true := by rw [hc1]; rfl
                have qd : ((s[j].toNat : Int) != 32) = false := by rw [bne, qc]; rfl
                have HX : Hid (j - i = scanW 0 ((bs s).drop i)) := Lib.hid (by
                  have h1 := HJ.out
                  rw [hd, scanW_stop _ (.inl hc1)] at h1
                  omega)
                have hij0 : i < j := by have h1 := HX.out; have h2 := HS1.out; omega
                clear hd hc1
                have hij : i < j := hij0
                have HN0 : Hid ((ls ++ [seg s i j]) ++ wordsB ((bs s).drop j) = LS) := Lib.hid (by
                  have h1 := HIw.out
                  have hsl : (seg s i j) = ((bs s).drop i).take (scanW 0 ((bs s).drop i)) := by
                    unfold seg
                    rw [show j - i = scanW 0 ((bs s).drop i) by have := HX.out; omega]
                  have hsd : (bs s).drop j = ((bs s).drop i).drop (scanW 0 ((bs s).drop i)) := by
                    rw [List.drop_drop]
                    congr 1
                    have := HX.out
                    omega
                  rw [hsl, hsd, List.append_assoc]
                  exact h1)
                obtain ⟨WA, hWA⟩ : ∃ WA, wa.alloc (.cells #[.string (s.extract i j)] 9) = WA := ⟨_, rfl⟩
                have HWA : Hid (Below w.heap.size w WA ∧ BoxN WA wa.heap.size [.string (s.extract i j)] 9 ∧ WA.ownsRow w.heap.size 9 1 (.slice va m vc) m (strsL ls) ∧ w.heap.size ≤ WA.heap.size) := by
                  rw [← hWA]
                  have hb := HI.out.1.trans (below_to (below1 wa (.cells #[.string (s.extract i j)] 9)) HI.out.1.size)
                  exact ⟨hb, boxN_alloc _ _ _, ownsRow_below HI.out.2.1 (below1 _ _), hb.size⟩
                have q5 : (0 : Int) ≤ (i : Int) := by omega
                have q6 : (i : Int) ≤ (j : Int) := by omega
                have q7 : (j : Int) ≤ (s.size : Int) := by omega
                go_wp2_with (at_builtin; refine wpList_append_lies _ rfl (.tmp 70) (.tmp 75) 34 rfl w.heap.size 9 i9 (.string ⟨#[]⟩) 1 16 Tryz.underlying34 hi9 hz90 hz91 hz92 rfl (by decide) (.slice va m vc) m (strsL ls) rfl HWA.out.2.2.1 ⟨wa.heap.size, 0, none⟩ 1 1 [.string (s.extract i j)] rfl rfl (World.news_of_block (cs := #[.string (s.extract i j)]) (t := 9) (fr := (0, 0)) HWA.out.2.1) (by simp [Value.oneCell']) (by omega) (by unfold maxLen; omega) (by omega) HWA.out.2.2.2 WA.heap.size rfl ?_; intro g9 cap9 w9 hown9 hgrow9 hat9 hlt9)
                have HN : Hid (Below w.heap.size w w9 ∧ w9.ownsRow w.heap.size 9 1 (.slice (some ⟨g9, 0, none⟩) (m + 1) cap9) (m + 1) (strsL (ls ++ [seg s i j]))) := by
                  refine ⟨HWA.out.1.trans (grown_own HWA.out.2.2.1 HWA.out.2.2.2 hgrow9), ?_⟩
                  rw [strs_snoc, mkB_seg]
                  exact hown9
                clear hown9 hgrow9 hat9 hlt9
                go_roundg (gJ - 1)
                case measure => omega
                case rel => exact ⟨j, m + 1, some ⟨g9, 0, none⟩, cap9, ls ++ [seg s i j], rfl, rfl, by omega, by omega, by omega, HN.out.1, HN.out.2, HN0.out, by rw [List.length_append, HI.out.2.2.2]; rfl⟩
              · have qc : ((s[j].toNat : Int) == 32) = false := u8b hc1
                have qd : ((s[j].toNat : Int) != 32) = true := by rw [bne, qc]; rfl
                by_cases hst : (s[j]'hj) = 41 ∧ o = 0
                · have q41 : ((s[j].toNat : Int) == 41) = true := by rw [hst.1]; rfl
                  have HX : Hid (j - i = scanW 0 ((bs s).drop i)) := Lib.hid (by
                    have h1 := HJ.out
                    rw [hd, scanW_stop _ (.inr hst)] at h1
                    omega)
                  have hij0 : i < j := by have h1 := HX.out; have h2 := HS1.out; omega
                  obtain ⟨_, rfl⟩ := hst
                  clear hd hc1
                  have hij : i < j := hij0
                  have HN0 : Hid ((ls ++ [seg s i j]) ++ wordsB ((bs s).drop j) = LS) := Lib.hid (by
                    have h1 := HIw.out
                    have hsl : (seg s i j) = ((bs s).drop i).take (scanW 0 ((bs s).drop i)) := by
                      unfold seg
                      rw [show j - i = scanW 0 ((bs s).drop i) by have := HX.out; omega]
                    have hsd : (bs s).drop j = ((bs s).drop i).drop (scanW 0 ((bs s).drop i)) := by
                      rw [List.drop_drop]
                      congr 1
                      have := HX.out
                      omega
                    rw [hsl, hsd, List.append_assoc]
                    exact h1)
                  obtain ⟨WA, hWA⟩ : ∃ WA, wa.alloc (.cells #[.string (s.extract i j)] 9) = WA := ⟨_, rfl⟩
                  have HWA : Hid (Below w.heap.size w WA ∧ BoxN WA wa.heap.size [.string (s.extract i j)] 9 ∧ WA.ownsRow w.heap.size 9 1 (.slice va m vc) m (strsL ls) ∧ w.heap.size ≤ WA.heap.size) := by
                    rw [← hWA]
                    have hb := HI.out.1.trans (below_to (below1 wa (.cells #[.string (s.extract i j)] 9)) HI.out.1.size)
                    exact ⟨hb, boxN_alloc _ _ _, ownsRow_below HI.out.2.1 (below1 _ _), hb.size⟩
                  have q5 : (0 : Int) ≤ (i : Int) := by omega
                  have q6 : (i : Int) ≤ (j : Int) := by omega
                  have q7 : (j : Int) ≤ (s.size : Int) := by omega
                  go_wp2_with (at_builtin; refine wpList_append_lies _ rfl (.tmp 70) (.tmp 75) 34 rfl w.heap.size 9 i9 (.string ⟨#[]⟩) 1 16 Tryz.underlying34 hi9 hz90 hz91 hz92 rfl (by decide) (.slice va m vc) m (strsL ls) rfl HWA.out.2.2.1 ⟨wa.heap.size, 0, none⟩ 1 1 [.string (s.extract i j)] rfl rfl (World.news_of_block (cs := #[.string (s.extract i j)]) (t := 9) (fr := (0, 0)) HWA.out.2.1) (by simp [Value.oneCell']) (by omega) (by unfold maxLen; omega) (by omega) HWA.out.2.2.2 WA.heap.size rfl ?_; intro g9 cap9 w9 hown9 hgrow9 hat9 hlt9)
                  have HN : Hid (Below w.heap.size w w9 ∧ w9.ownsRow w.heap.size 9 1 (.slice (some ⟨g9, 0, none⟩) (m + 1) cap9) (m + 1) (strsL (ls ++ [seg s i j]))) := by
                    refine ⟨HWA.out.1.trans (grown_own HWA.out.2.2.1 HWA.out.2.2.2 hgrow9), ?_⟩
                    rw [strs_snoc, mkB_seg]
                    exact hown9
                  clear hown9 hgrow9 hat9 hlt9
                  go_roundg (gJ - 1)
                  case measure => omega
                  case rel => exact ⟨j, m + 1, some ⟨g9, 0, none⟩, cap9, ls ++ [seg s i j], rfl, rfl, by omega, by omega, by omega, HN.out.1, HN.out.2, HN0.out, by rw [List.length_append, HI.out.2.2.2]; rfl⟩
                · have HGO := Lib.hid (scanW_go (o := o) ((bs s).drop (j + 1)) hc1 hst)
                  by_cases h40 : (s[j]'hj) = 40
                  · have q40 : ((s[j].toNat : Int) == 40) = true := by rw [h40]; rfl
                    have q41 : ((s[j].toNat : Int) == 41) = false := by rw [h40]; rfl
                    have qo := wrapN (i := o) (by omega)
                    have HX : Hid (j + 1 - i + scanW (o + 1) ((bs s).drop (j + 1)) = scanW 0 ((bs s).drop i)) := Lib.hid (by
                      have h1 := HJ.out
                      have h2 := HGO.out
                      rw [if_pos h40] at h2
                      rw [hd, h2] at h1
                      omega)
                    clear hd hc1 hst HGO h40
                    go_wp2_with fail
                    go_roundg (gk - 1)
                    case measure => omega
                    case rel => exact ⟨j + 1, o + 1, by go_num, by go_num, by omega, by omega, by omega, by omega, rfl, HX⟩
                  · have q40 : ((s[j].toNat : Int) == 40) = false := u8b h40
                    by_cases h41 : (s[j]'hj) = 41
                    · have q41 : ((s[j].toNat : Int) == 41) = true := by rw [h41]; rfl
                      have ho : o ≠ 0 := fun e => hst ⟨h41, e⟩
                      obtain ⟨p, rfl⟩ : ∃ p, o = p + 1 := ⟨o - 1, by omega⟩
                      have qp : (((p + 1 : Nat) : Int) == 0) = false := beq_eq_false_iff_ne.2 (by omega)
                      have qp2 : (((p : Int) + 1) == 0) = false := beq_eq_false_iff_ne.2 (by omega)
                      have qo : IntKind.i64.wrap (((p + 1 : Nat) : Int) - 1) = (p : Int) := by rw [IntKind.wrap_i64]; omega
                      have HX : Hid (j + 1 - i + scanW p ((bs s).drop (j + 1)) = scanW 0 ((bs s).drop i)) := Lib.hid (by
                        have h1 := HJ.out
                        have h2 := HGO.out
                        rw [if_neg h40, if_pos h41] at h2
                        rw [hd, h2] at h1
                        simp only [Nat.add_sub_cancel] at h1
                        omega)
                      clear hd hc1 hst HGO h40 h41 ho
                      obtain ⟨z, hz⟩ : ∃ z, p + 1 = z := ⟨_, rfl⟩
                      rw [hz] at qp qo hoj ⊢
                      have HZ := Lib.hid hz
                      clear hz qp2
                      go_wp2_with fail
                      go_roundg (gk - 1)
                      case measure => omega
                      case rel => exact ⟨j + 1, p, by go_num, rfl, by omega, by omega, by omega, by have := HZ.out; omega, rfl, HX⟩
                    · have q41 : ((s[j].toNat : Int) == 41) = false := u8b h41
                      have HX : Hid (j + 1 - i + scanW o ((bs s).drop (j + 1)) = scanW 0 ((bs s).drop i)) := Lib.hid (by
                        have h1 := HJ.out
                        have h2 := HGO.out
                        rw [if_neg h40, if_neg h41] at h2
                        rw [hd, h2] at h1
                        omega)
                      clear hd hc1 hst HGO h40 h41
                      go_wp2_with fail
                      go_roundg (gk - 1)
                      case measure => omega
                      case rel => exact ⟨j + 1, o, by go_num, rfl, by omega, by omega, by omega, by omega, rfl, HX⟩
            · have hj1 : ¬ (j : Int) < (s.size : Int) := by omega
              have HX : Hid (j - i = scanW 0 ((bs s).drop i)) := Lib.hid (by
                have h1 := HJ.out
                have h2 : (bs s).drop j = [] := List.drop_eq_nil_of_le (by rw [bs_length]; omega)
                rw [h2] at h1
                have h3 : scanW o [] = 0 := rfl
                rw [h3] at h1
                omega)
              have hij0 : i < j := by have h1 := HX.out; have h2 := HS1.out; omega
              have hij : i < j := hij0
              have HN0 : Hid ((ls ++ [seg s i j]) ++ wordsB ((bs s).drop j) = LS) := Lib.hid (by
                have h1 := HIw.out
                have hsl : (seg s i j) = ((bs s).drop i).take (scanW 0 ((bs s).drop i)) := by
                  unfold seg
                  rw [show j - i = scanW 0 ((bs s).drop i) by have := HX.out; omega]
                have hsd : (bs s).drop j = ((bs s).drop i).drop (scanW 0 ((bs s).drop i)) := by
                  rw [List.drop_drop]
                  congr 1
                  have := HX.out
                  omega
                rw [hsl, hsd, List.append_assoc]
                exact h1)
              obtain ⟨WA, hWA⟩ : ∃ WA, wa.alloc (.cells #[.string (s.extract i j)] 9) = WA := ⟨_, rfl⟩
              have HWA : Hid (Below w.heap.size w WA ∧ BoxN WA wa.heap.size [.string (s.extract i j)] 9 ∧ WA.ownsRow w.heap.size 9 1 (.slice va m vc) m (strsL ls) ∧ w.heap.size ≤ WA.heap.size) := by
                rw [← hWA]
                have hb := HI.out.1.trans (below_to (below1 wa (.cells #[.string (s.extract i j)] 9)) HI.out.1.size)
                exact ⟨hb, boxN_alloc _ _ _, ownsRow_below HI.out.2.1 (below1 _ _), hb.size⟩
              have q5 : (0 : Int) ≤ (i : Int) := by omega
              have q6 : (i : Int) ≤ (j : Int) := by omega
              have q7 : (j : Int) ≤ (s.size : Int) := by omega
              go_wp2_with (at_builtin; refine wpList_append_lies _ rfl (.tmp 70) (.tmp 75) 34 rfl w.heap.size 9 i9 (.string ⟨#[]⟩) 1 16 Tryz.underlying34 hi9 hz90 hz91 hz92 rfl (by decide) (.slice va m vc) m (strsL ls) rfl HWA.out.2.2.1 ⟨wa.heap.size, 0, none⟩ 1 1 [.string (s.extract i j)] rfl rfl (World.news_of_block (cs := #[.string (s.extract i j)]) (t := 9) (fr := (0, 0)) HWA.out.2.1) (by simp [Value.oneCell']) (by omega) (by unfold maxLen; omega) (by omega) HWA.out.2.2.2 WA.heap.size rfl ?_; intro g9 cap9 w9 hown9 hgrow9 hat9 hlt9)
              have HN : Hid (Below w.heap.size w w9 ∧ w9.ownsRow w.heap.size 9 1 (.slice (some ⟨g9, 0, none⟩) (m + 1) cap9) (m + 1) (strsL (ls ++ [seg s i j]))) := by
                refine ⟨HWA.out.1.trans (grown_own HWA.out.2.2.1 HWA.out.2.2.2 hgrow9), ?_⟩
                rw [strs_snoc, mkB_seg]
                exact hown9
              clear hown9 hgrow9 hat9 hlt9
              go_roundg (gJ - 1)
              case measure => omega
              case rel => exact ⟨j, m + 1, some ⟨g9, 0, none⟩, cap9, ls ++ [seg s i j], rfl, rfl, by omega, by omega, by omega, HN.out.1, HN.out.2, HN0.out, by rw [List.length_append, HI.out.2.2.2]; rfl⟩
    · obtain rfl : i = s.size := by omega
      have HN0 : Hid (ls = LS) := Lib.hid (by
        have h1 := HI.out.2.2.1
        rw [drop_end, wordsB_empty, List.append_nil] at h1
        exact h1)
      have hi1 : ¬ (s.size : Int) < (s.size : Int) := by omega
      go_wp2_with fail
      go_ret
      have hm := HI.out.2.2.2
      rw [HN0.out] at hm
      refine ⟨va, vc, by rw [hm]; rfl, HI.out.1, ?_⟩
      rw [hm, ← HN0.out]
      exact HI.out.2.1
end Go.Proofs.YtjcefgjgjhdbpaaGreatDoor
