/-
  What Search looks at: the texts of a value, do they fit. Helper text; the conditions are those typed.
-/
import Derived.Test.YtnplmembdfklcaaDoorAwake
import Derived.Test.YtnplmembdfklcaaDoorIntsR
import Derived.Lib.ItoaLen
import Derived.Lib.ItoaMem
namespace Go.Proofs.YtnplmembdfklcaaDoor
set_option linter.unusedVariables false
set_option linter.unusedSimpArgs false
open Go.RowKit Go.Maps

abbrev Pow (w : World) : Prop := Lib.TabIs Tryd.prog w "internal/strconv.uint64pow10" .u64 Lib.pow10Tab
theorem grow_below (w : World) (k : Nat) (os : Array Obj) : Below w.heap.size w (Sort.grow (w.drewN k) os) :=
  ⟨rfl, rfl, rfl, by simp [Sort.grow, World.drewN], fun i hi => by
    show (w.heap ++ os)[i]? = w.heap[i]?
    rw [Array.getElem?_append_left hi]⟩
theorem gPow : Tryd.prog.globalNamed "internal/strconv.uint64pow10" = some 3 := by kernel_rfl
theorem pow_below {w w' : World} (h : Pow w) (hc : Below w.heap.size w w') : Pow w' := by
  unfold Pow Lib.TabIs World.var? at h ⊢
  rw [gPow] at h ⊢
  simp only [Option.bind_some] at h ⊢
  have hlt : 3 < w.heap.size := by
    rcases Nat.lt_or_ge 3 w.heap.size with h' | h'
    · exact h'
    · rw [Array.getElem?_eq_none h'] at h; cases h
  rw [hc.block 3 hlt]
  exact h
def itoaB (n : Int) : ByteArray := ⟨(Lib.itoa n).toArray⟩
theorem itoa_c (n : Int) (h0 : -9223372036854775808 ≤ n) (h1 : n ≤ 9223372036854775807) (w : World) (hw : Pow w) : Calls Tryd.prog 44 #[.int .i64 n] w fun e w' => e = .returned (.string (itoaB n)) ∧ Below w.heap.size w w' :=
  (Any.strconv_Itoa Tryd.layItoa n h0 h1 w hw).mono fun e w' ⟨he, k, os, hw'⟩ => ⟨he, hw' ▸ grow_below w k os⟩
theorem itoa_size (n : Int) (h0 : -9223372036854775808 ≤ n) (h1 : n ≤ 9223372036854775807) : (itoaB n).size ≤ 21 := by
  have := Lib.itoa_length_le n h0 h1
  rw [← bs_len]
  exact this

/-- The texts by which a value is looked for. -/
def textsL (v : ValT) : List ByteArray := if v.kind = 1 then [itoaB v.num] else if v.kind = 2 then [v.text] else v.list
def hitV (how : Int) (p : ByteArray) (v : ValT) : Bool := (textsL v).any fun t => fitsB how (bs p) (bs t)
def hitB (st : StT) (how : Int) (key p : ByteArray) (id : Int) : Bool := match st.val id key with | some v => hitV how p v | none => false
/-- A value whose parts are no longer than the program lets by. -/
structure ValOK (v : ValT) : Prop where
  num0 : -9223372036854775808 ≤ v.num
  num1 : v.num ≤ 9223372036854775807
  text : v.text.size ≤ 200
  len : v.list.length ≤ 200
  each : ∀ s ∈ v.list, s.size ≤ 200
def StOK (st : StT) : Prop := ∀ id key v, st.val id key = some v → ValOK v ∧ 0 ≤ id ∧ id ≤ 65535
theorem textsL_size {v : ValT} (h : ValOK v) : ∀ s ∈ textsL v, s.size ≤ 200 := by
  intro s hs
  unfold textsL at hs
  split at hs
  · simp only [List.mem_singleton] at hs
    subst hs
    have := itoa_size v.num h.num0 h.num1
    omega
  · split at hs
    · simp only [List.mem_singleton] at hs
      subst hs
      exact h.text
    · exact h.each s hs

set_option maxHeartbeats 2000000 in
/-- Fits, told with its world. -/
theorem fitsQ_c (how : Int) (p s : ByteArray) (hp : p.size ≤ maxLen) (hs : s.size < 4294967281) (w : World) (hsh : MaxLenC w) :
    Calls Tryd.prog 9 #[.int .i64 how, .string p, .string s] w fun e w' => e = .returned (.bool (fitsB how (bs p) (bs s))) ∧ ∃ q, w' = w.drewN q := by
  obtain ⟨R, hR⟩ : ∃ R, fitsB how (bs p) (bs s) = R := ⟨_, rfl⟩
  rw [hR]
  unfold fitsB at hR
  by_cases h1 : how = 1
  · rw [if_pos h1] at hR
    subst h1
    have hq : (p.toList == s.toList) = R := by rw [bsEq]; exact hR
    replace hR := Lib.hid hR
    replace hsh := Lib.hid hsh
    go_enter Tryd.func9, Tryd.ntmps9
    go_wp2_with fail
    go_ret
    exact ⟨rfl, 0, rfl⟩
  rw [if_neg h1] at hR
  have b1 : (how == 1) = false := by simpa using h1
  by_cases h2 : how = 2
  · rw [if_pos h2] at hR
    subst h2
    have HC := Any.strings_HasPrefix Tryd.layPrefix s p w
    rw [show Lib.hasPrefix s.data.toList p.data.toList = R from hR] at HC
    replace HC := Lib.hid HC
    replace hR := Lib.hid hR
    replace hsh := Lib.hid hsh
    clear h1 b1
    go_enter Tryd.func9, Tryd.ntmps9
    go_wp2_with fail
    refine HC.out.mono ?_
    rintro e w' ⟨rfl, rfl⟩
    go_wp2_with fail
    go_ret
    exact ⟨rfl, 0, rfl⟩
  rw [if_neg h2] at hR
  have b2 : (how == 2) = false := by simpa using h2
  by_cases h3 : how = 3
  · rw [if_pos h3] at hR
    obtain ⟨ml, hml⟩ := hsh
    have HC := Any.strings_Contains { Tryd.layContains with } s p ml w hs hml
    replace hml := Lib.hid hml
    change Calls Tryd.prog 20 _ _ _ at HC
    subst h3
    rw [show Lib.contains s.data.toList p.data.toList = R from hR] at HC
    replace HC := Lib.hid HC
    replace hR := Lib.hid hR
    clear h1 b1 h2 b2
    go_enter Tryd.func9, Tryd.ntmps9
    go_wp2_with fail
    refine HC.out.mono ?_
    rintro e w' ⟨rfl, rfl⟩
    go_wp2_with fail
    go_ret
    exact ⟨rfl, 0, rfl⟩
  rw [if_neg h3] at hR
  have b3 : (how == 3) = false := by simpa using h3
  by_cases h4 : how = 4
  · rw [if_pos h4] at hR
    subst h4
    have HC := glob_c p s hp (Nat.le_trans (Nat.le_of_lt hs) (by decide)) w
    rw [hR] at HC
    replace HC := Lib.hid HC
    replace hR := Lib.hid hR
    clear h1 b1 h2 b2 h3 b3
    replace hsh := Lib.hid hsh
    go_enter Tryd.func9, Tryd.ntmps9
    go_wp2_with fail
    refine HC.out.mono ?_
    rintro e w' ⟨rfl, q, rfl⟩
    go_wp2_with fail
    go_ret
    exact ⟨rfl, q, rfl⟩
  rw [if_neg h4] at hR
  subst hR
  have b4 : (how == 4) = false := by simpa using h4
  clear h1 h2 h3 h4
  replace hsh := Lib.hid hsh
  go_enter Tryd.func9, Tryd.ntmps9
  go_wp2_with fail
  go_ret
  exact ⟨rfl, 0, rfl⟩

/-- Texts that are not long. -/
abbrev Txt : Type := {s : ByteArray // s.size < 4294967281}
instance : Inhabited Txt := ⟨⟨⟨#[]⟩, by decide⟩⟩
set_option maxHeartbeats 1000000 in
theorem fitsFn_c (how : Int) (p : ByteArray) (hp : p.size ≤ maxLen) (b1 b2 : Nat) (s : Txt) (w : World) (hsh : MaxLenC w) (c1 : w.cell? ⟨b1, 0, none⟩ = some (.int .i64 how)) (c2 : w.cell? ⟨b2, 0, none⟩ = some (.string p)) :
    FnGives Tryd.prog 30 #[.pointer (some ⟨b1, 0, none⟩), .pointer (some ⟨b2, 0, none⟩)] #[.string s.1] (.bool (fitsB how (bs p) (bs s.1))) w := by
  unfold FnGives
  have HC := Lib.hid (fitsQ_c how p s.1 hp s.2 w hsh)
  generalize fitsB how (bs p) (bs s.1) = R at HC ⊢
  obtain ⟨t, ht⟩ := s
  generalize (⟨t, ht⟩ : Txt).1 = t at HC ⊢
  clear hp hsh
  go_enter Tryd.func30, Tryd.ntmps30
  go_wp2_with (go_at_call 9; refine HC.out.mono ?_; rintro e w' ⟨rfl, q, rfl⟩)
  go_ret
  exact ⟨rfl, q, rfl⟩
theorem enters30 : ∀ args w, (callFunc 30 args).run Tryd.prog w = .ok (.enter 30 args) w := fun args w => by kernel_rfl

/-- Does one of texts fit? -/
theorem anyFits_c (l : List ByteArray) (hl : ∀ s ∈ l, s.size ≤ 200) (a : Option Addr) (n c : Nat) (S : Nat → Prop) (w : World) (h : StrsV w S l (.slice a n c)) (how : Int) (p : ByteArray) (hp : p.size ≤ maxLen) (b1 b2 : Nat) (hsh : MaxLenC w)
    (c1 : w.cell? ⟨b1, 0, none⟩ = some (.int .i64 how)) (c2 : w.cell? ⟨b2, 0, none⟩ = some (.string p)) :
    Calls Tryd.prog 27 #[.slice a n c, .func (.func 30) #[] #[.pointer (some ⟨b1, 0, none⟩), .pointer (some ⟨b2, 0, none⟩)]] w fun e w' => e = .returned (.bool (l.any fun s => fitsB how (bs p) (bs s))) ∧ Below w.heap.size w w' := by
  have hln := h.len
  obtain ⟨a2, c2', he, hs, hn, hin⟩ := h
  injection he with h1 h2 h3
  subst h1 h3
  by_cases h0 : l = []
  · subst h0
    obtain rfl : n = 0 := by rw [← hln]; rfl
    exact (AnyE.slices_ContainsFunc_empty Tryd.layAnyS a c _ w).mono fun e w' ⟨h1, h2⟩ => ⟨h1, by rw [h2]; exact Below.refl _ _⟩
  · obtain ⟨b, off, rfl, hb, hc⟩ := hin h0
    have hm : n ≤ 9223372036854775807 := by omega
    have hlt : ∀ s ∈ l, s.size < 4294967281 := fun s hs => by have := hl s hs; omega
    obtain ⟨zs, hzs⟩ : ∃ zs : List Txt, zs.map (·.1) = l := ⟨l.attach.map fun s => ⟨s.1, hlt s.1 s.2⟩, by simp [List.map_map, Function.comp_def]⟩
    have hzl : zs.length = n := by rw [← hln, ← hzs, List.length_map]
    refine (AnyE.slices_ContainsFunc Tryd.layAnyS (fun s : Txt => .string s.1) (fun s => fitsB how (bs p) (bs s.1)) 30 _ enters30 b off n c zs w (fun W x hW => fitsFn_c how p hp b1 b2 x W (hsh.below hW) (cell_tr hW c1) (cell_tr hW c2)) (by omega) hm (fun j hj => ?_)).mono fun e w' ⟨h1, q, h2⟩ => ⟨?_, by rw [h2]; exact below_dr (Below.refl _ _) q⟩
    · have hj' : j < l.length := by omega
      rw [hc j hj', getElem!_pos zs j hj]
      subst hzs
      rw [List.getElem_map]
    · rw [h1, List.take_of_length_le (by omega), ← hzs, List.any_map]
      rfl

theorem one_str (W : World) (s : ByteArray) (hs : s.size ≤ maxLen) : StrsV (W.alloc (.cells #[.string s] 9)) (fun _ => True) [s] (.slice (some ⟨W.heap.size, 0, none⟩) 1 1) :=
  ⟨_, 1, rfl, fun x hx => by simp only [List.mem_singleton] at hx; subst hx; exact hs, by simp, fun _ => ⟨_, 0, rfl, trivial, fun i hi => by
    obtain rfl : i = 0 := by simp at hi; omega
    exact (boxN_alloc W [.string s] 9).cell (j := 0) rfl⟩⟩

set_option maxHeartbeats 2000000 in
theorem texts_c (v : ValT) (hv : ValOK v) (a : Option Addr) (n c : Nat) (S : Nat → Prop) (w : World) (h : StrsV w S v.list (.slice a n c)) (hP : Pow w) :
    Calls Tryd.prog 29 #[.agg #[.int .i64 v.kind, .int .i64 v.num, .string v.text, .slice a n c]] w fun e w' => (∃ a' n' c', e = .returned (.slice a' n' c') ∧ StrsV w' (fun _ => True) (textsL v) (.slice a' n' c')) ∧ Below w.heap.size w w' := by
  obtain ⟨w1, hw1⟩ : ∃ w1, w.alloc (.cells #[.int .i64 v.kind, .int .i64 v.num, .string v.text, .slice a n c] 37) = w1 := ⟨_, rfl⟩
  have HW1 : Hid (Below w.heap.size w w1 ∧ BoxN w1 w.heap.size [.int .i64 v.kind, .int .i64 v.num, .string v.text, .slice a n c] 37) := by
    rw [← hw1]
    exact ⟨below1 _ _, boxN_alloc _ _ _⟩
  have p0 := HW1.out.2.cell (j := 0) rfl
  have p1 := HW1.out.2.cell (j := 1) rfl
  have p2 := HW1.out.2.cell (j := 2) rfl
  have p3 := HW1.out.2.cell (j := 3) rfl
  by_cases h1 : v.kind = 1
  · have HI := Lib.hid (itoa_c v.num hv.num0 hv.num1 w1 (pow_below hP HW1.out.1))
    have HF : Hid (∀ w2, Below w1.heap.size w1 w2 → StrsV (w2.alloc (.cells #[.string (itoaB v.num)] 9)) (fun _ => True) (textsL v) (.slice (some ⟨w2.heap.size, 0, none⟩) 1 1) ∧ Below w.heap.size w (w2.alloc (.cells #[.string (itoaB v.num)] 9))) := fun w2 hb => by
      refine ⟨?_, below_al (HW1.out.1.trans (below_to hb HW1.out.1.size)) (Nat.le_refl _) _⟩
      unfold textsL
      rw [if_pos h1]
      exact one_str w2 _ (by have := itoa_size v.num hv.num0 hv.num1; unfold maxLen; omega)
    rw [h1] at p0 hw1 ⊢
    generalize itoaB v.num = t at HI HF
    clear h1 hv h hP
    go_enter Tryd.func29, Tryd.ntmps29
    go_wp2_with (go_at_call 44; refine HI.out.mono ?_; rintro e w2 ⟨rfl, hb2⟩)
    have HF2 := Lib.hid (HF.out _ hb2)
    go_ret
    exact ⟨⟨_, _, _, rfl, HF2.out.1⟩, HF2.out.2⟩
  · by_cases h2 : v.kind = 2
    · have HF : Hid (StrsV (w1.alloc (.cells #[.string v.text] 9)) (fun _ => True) (textsL v) (.slice (some ⟨w1.heap.size, 0, none⟩) 1 1) ∧ Below w.heap.size w (w1.alloc (.cells #[.string v.text] 9))) := by
        refine ⟨?_, below_al HW1.out.1 (Nat.le_refl _) _⟩
        unfold textsL
        rw [if_neg h1, if_pos h2]
        exact one_str w1 _ (by have := hv.text; unfold maxLen; omega)
      rw [h2] at p0 hw1 ⊢
      clear h1 h2 hv h hP
      go_enter Tryd.func29, Tryd.ntmps29
      go_wp2_with fail
      go_ret
      exact ⟨⟨_, _, _, rfl, HF.out.1⟩, HF.out.2⟩
    · have HF : Hid (StrsV w1 (fun _ => True) (textsL v) (.slice a n c) ∧ Below w.heap.size w w1) := by
        refine ⟨?_, HW1.out.1⟩
        unfold textsL
        rw [if_neg h1, if_neg h2]
        exact (h.keep (fun _ _ => trivial) (fun _ _ _ => rfl)).below HW1.out.1
      have k1 : (v.kind == 1) = false := by simpa using h1
      have k2 : (v.kind == 2) = false := by simpa using h2
      clear h1 h2 hv h hP
      go_enter Tryd.func29, Tryd.ntmps29
      go_wp2_with fail
      go_ret
      exact ⟨⟨_, _, _, rfl, HF.out.1⟩, HF.out.2⟩
end Go.Proofs.YtnplmembdfklcaaDoor
