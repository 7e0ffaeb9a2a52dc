/-
  What Search looks at: the texts of a value, do they fit. Helper text; the conditions are those typed.
  Search: the walk. Helper text; the conditions are those typed.
-/
import Derived.Test.YtnplmembdfklcaaGreatDoorAwake
import Derived.Test.YtnplmembdfklcaaGreatDoorIntsR
import Derived.Lib.ItoaLen
import Derived.Lib.ItoaMem
import Derived.Maps.RangeWalk
namespace Go.Proofs.YtnplmembdfklcaaGreatDoor
set_option linter.unusedVariables false
set_option linter.unusedSimpArgs false
open Go.RowKit Go.Maps

abbrev Pow (w : World) : Prop := Lib.TabIs Tryz.prog w "internal/strconv.uint64pow10" .u64 Lib.pow10Tab
theorem grow_below (w : World) (k : Nat) (os : Array Obj) : Below w.heap.size w (Sort.grow (w.drewN k) os) :=
  ⟨rfl, rfl, rfl, by simp [Sort.grow, World.drewN], fun i hi => by
    show (w.heap ++ os)[i]? = w.heap[i]?
    rw [Array.getElem?_append_left hi]⟩
theorem gPow : Tryz.prog.globalNamed "internal/strconv.uint64pow10" = some 1 := by kernel_rfl
theorem pow_below {w w' : World} (h : Pow w) (hc : Below w.heap.size w w') : Pow w' := by
  unfold Pow Lib.TabIs World.var? at h ⊢
  rw [gPow] at h ⊢
  simp only [Option.bind_some] at h ⊢
  have hlt : 1 < w.heap.size := by
    rcases Nat.lt_or_ge 1 w.heap.size with h' | h'
    · exact h'
    · rw [Array.getElem?_eq_none h'] at h; cases h
  rw [hc.block 1 hlt]
  exact h
def itoaB (n : Int) : ByteArray := ⟨(Lib.itoa n).toArray⟩
theorem itoa_c (n : Int) (h0 : -9223372036854775808 ≤ n) (h1 : n ≤ 9223372036854775807) (w : World) (hw : Pow w) : Calls Tryz.prog 50 #[.int .i64 n] w fun e w' => e = .returned (.string (itoaB n)) ∧ Below w.heap.size w w' :=
  (Any.strconv_Itoa Tryz.layItoa n h0 h1 w hw).mono fun e w' ⟨he, k, os, hw'⟩ => ⟨he, hw' ▸ grow_below w k os⟩
theorem itoa_size (n : Int) (h0 : -9223372036854775808 ≤ n) (h1 : n ≤ 9223372036854775807) : (itoaB n).size ≤ 21 := by
  have := Lib.itoa_length_le n h0 h1
  rw [← bs_len]
  exact this

/-- The texts by which a value is looked for. -/
def textsL (v : ValT) : List ByteArray := if v.kind = 1 then [itoaB v.num] else if v.kind = 2 then [v.text] else v.list
def hitV (how : Int) (p : ByteArray) (v : ValT) : Bool := (textsL v).any fun t => fitsB how (bs p) (bs t)
def hitB (st : StT) (how : Int) (key p : ByteArray) (id : Int) : Bool := match st.val id key with | some v => hitV how p v | none => false
/-- A value whose parts are no longer than the program lets by. -/
structure ValOK (v : ValT) : Prop where
  num0 : -9223372036854775808 ≤ v.num
  num1 : v.num ≤ 9223372036854775807
  text : v.text.size ≤ 200
  len : v.list.length ≤ 200
  each : ∀ s ∈ v.list, s.size ≤ 200
def StOK (st : StT) : Prop := ∀ id key v, st.val id key = some v → ValOK v ∧ 0 ≤ id ∧ id ≤ 65535
theorem textsL_size {v : ValT} (h : ValOK v) : ∀ s ∈ textsL v, s.size ≤ 200 := by
  intro s hs
  unfold textsL at hs
  split at hs
  · simp only [List.mem_singleton] at hs
    subst hs
    have := itoa_size v.num h.num0 h.num1
    omega
  · split at hs
    · simp only [List.mem_singleton] at hs
      subst hs
      exact h.text
    · exact h.each s hs

set_option maxHeartbeats 2000000 in
/-- Fits, told with its world. -/
theorem fitsQ_c (how : Int) (p s : ByteArray) (hp : p.size ≤ maxLen) (hs : s.size < 4294967281) (w : World) (hsh : MaxLenC w) :
    Calls Tryz.prog 21 #[.int .i64 how, .string p, .string s] w fun e w' => e = .returned (.bool (fitsB how (bs p) (bs s))) ∧ ∃ q, w' = w.drewN q := by
  obtain ⟨R, hR⟩ : ∃ R, fitsB how (bs p) (bs s) = R := ⟨_, rfl⟩
  rw [hR]
  unfold fitsB at hR
  by_cases h1 : how = 1
  · rw [if_pos h1] at hR
    subst h1
    have hq : (p.toList == s.toList) = R := by rw [bsEq]; exact hR
    replace hR := Lib.hid hR
    replace hsh := Lib.hid hsh
    go_enter Tryz.func21, Tryz.ntmps21
    go_wp2_with fail
    go_ret
    exact ⟨rfl, 0, rfl⟩
  rw [if_neg h1] at hR
  have b1 : (how == 1) = false := by simpa using h1
  by_cases h2 : how = 2
  · rw [if_pos h2] at hR
    subst h2
    have HC := Any.strings_HasPrefix Tryz.layPrefix s p w
    rw [show Lib.hasPrefix s.data.toList p.data.toList = R from hR] at HC
    replace HC := Lib.hid HC
    replace hR := Lib.hid hR
    replace hsh := Lib.hid hsh
    clear h1 b1
    go_enter Tryz.func21, Tryz.ntmps21
    go_wp2_with fail
    refine HC.out.mono ?_
    rintro e w' ⟨rfl, rfl⟩
    go_wp2_with fail
    go_ret
    exact ⟨rfl, 0, rfl⟩
  rw [if_neg h2] at hR
  have b2 : (how == 2) = false := by simpa using h2
  by_cases h3 : how = 3
  · rw [if_pos h3] at hR
    obtain ⟨ml, hml⟩ := hsh
    have HC := Any.strings_Contains { Tryz.layContains with } s p ml w hs hml
    replace hml := Lib.hid hml
    change Calls Tryz.prog 43 _ _ _ at HC
    subst h3
    rw [show Lib.contains s.data.toList p.data.toList = R from hR] at HC
    replace HC := Lib.hid HC
    replace hR := Lib.hid hR
    clear h1 b1 h2 b2
    go_enter Tryz.func21, Tryz.ntmps21
    go_wp2_with fail
    refine HC.out.mono ?_
    rintro e w' ⟨rfl, rfl⟩
    go_wp2_with fail
    go_ret
    exact ⟨rfl, 0, rfl⟩
  rw [if_neg h3] at hR
  have b3 : (how == 3) = false := by simpa using h3
  by_cases h4 : how = 4
  · rw [if_pos h4] at hR
    subst h4
    have HC := glob_c p s hp (Nat.le_trans (Nat.le_of_lt hs) (by decide)) w
    rw [hR] at HC
    replace HC := Lib.hid HC
    replace hR := Lib.hid hR
    clear h1 b1 h2 b2 h3 b3
    replace hsh := Lib.hid hsh
    go_enter Tryz.func21, Tryz.ntmps21
    go_wp2_with fail
    refine HC.out.mono ?_
    rintro e w' ⟨rfl, q, rfl⟩
    go_wp2_with fail
    go_ret
    exact ⟨rfl, q, rfl⟩
  rw [if_neg h4] at hR
  subst hR
  have b4 : (how == 4) = false := by simpa using h4
  clear h1 h2 h3 h4
  replace hsh := Lib.hid hsh
  go_enter Tryz.func21, Tryz.ntmps21
  go_wp2_with fail
  go_ret
  exact ⟨rfl, 0, rfl⟩

/-- Texts that are not long. -/
abbrev Txt : Type := {s : ByteArray // s.size < 4294967281}
instance : Inhabited Txt := ⟨⟨⟨#[]⟩, by decide⟩⟩
set_option maxHeartbeats 1000000 in
theorem fitsFn_c (how : Int) (p : ByteArray) (hp : p.size ≤ maxLen) (b1 b2 : Nat) (s : Txt) (w : World) (hsh : MaxLenC w) (c1 : w.cell? ⟨b1, 0, none⟩ = some (.int .i64 how)) (c2 : w.cell? ⟨b2, 0, none⟩ = some (.string p)) :
    FnGives Tryz.prog 35 #[.pointer (some ⟨b1, 0, none⟩), .pointer (some ⟨b2, 0, none⟩)] #[.string s.1] (.bool (fitsB how (bs p) (bs s.1))) w := by
  unfold FnGives
  have HC := Lib.hid (fitsQ_c how p s.1 hp s.2 w hsh)
  generalize fitsB how (bs p) (bs s.1) = R at HC ⊢
  obtain ⟨t, ht⟩ := s
  generalize (⟨t, ht⟩ : Txt).1 = t at HC ⊢
  clear hp hsh
  go_enter Tryz.func35, Tryz.ntmps35
  go_wp2_with (go_at_call 21; refine HC.out.mono ?_; rintro e w' ⟨rfl, q, rfl⟩)
  go_ret
  exact ⟨rfl, q, rfl⟩
theorem enters30 : ∀ args w, (callFunc 35 args).run Tryz.prog w = .ok (.enter 35 args) w := fun args w => by kernel_rfl

/-- Does one of texts fit? -/
theorem anyFits_c (l : List ByteArray) (hl : ∀ s ∈ l, s.size ≤ 200) (a : Option Addr) (n c : Nat) (S : Nat → Prop) (w : World) (h : StrsV w S l (.slice a n c)) (how : Int) (p : ByteArray) (hp : p.size ≤ maxLen) (b1 b2 : Nat) (hsh : MaxLenC w)
    (c1 : w.cell? ⟨b1, 0, none⟩ = some (.int .i64 how)) (c2 : w.cell? ⟨b2, 0, none⟩ = some (.string p)) :
    Calls Tryz.prog 33 #[.slice a n c, .func (.func 35) #[] #[.pointer (some ⟨b1, 0, none⟩), .pointer (some ⟨b2, 0, none⟩)]] w fun e w' => e = .returned (.bool (l.any fun s => fitsB how (bs p) (bs s))) ∧ Below w.heap.size w w' := by
  have hln := h.len
  obtain ⟨a2, c2', he, hs, hn, hin⟩ := h
  injection he with h1 h2 h3
  subst h1 h3
  by_cases h0 : l = []
  · subst h0
    obtain rfl : n = 0 := by rw [← hln]; rfl
    exact (AnyE.slices_ContainsFunc_empty Tryz.layAnyS a c _ w).mono fun e w' ⟨h1, h2⟩ => ⟨h1, by rw [h2]; exact Below.refl _ _⟩
  · obtain ⟨b, off, rfl, hb, hc⟩ := hin h0
    have hm : n ≤ 9223372036854775807 := by omega
    have hlt : ∀ s ∈ l, s.size < 4294967281 := fun s hs => by have := hl s hs; omega
    obtain ⟨zs, hzs⟩ : ∃ zs : List Txt, zs.map (·.1) = l := ⟨l.attach.map fun s => ⟨s.1, hlt s.1 s.2⟩, by simp [List.map_map, Function.comp_def]⟩
    have hzl : zs.length = n := by rw [← hln, ← hzs, List.length_map]
    refine (AnyE.slices_ContainsFunc Tryz.layAnyS (fun s : Txt => .string s.1) (fun s => fitsB how (bs p) (bs s.1)) 35 _ enters30 b off n c zs w (fun W x hW => fitsFn_c how p hp b1 b2 x W (hsh.below hW) (cell_tr hW c1) (cell_tr hW c2)) (by omega) hm (fun j hj => ?_)).mono fun e w' ⟨h1, q, h2⟩ => ⟨?_, by rw [h2]; exact below_dr (Below.refl _ _) q⟩
    · have hj' : j < l.length := by omega
      rw [hc j hj', getElem!_pos zs j hj]
      subst hzs
      rw [List.getElem_map]
    · rw [h1, List.take_of_length_le (by omega), ← hzs, List.any_map]
      rfl

theorem one_str (W : World) (s : ByteArray) (hs : s.size ≤ maxLen) : StrsV (W.alloc (.cells #[.string s] 9)) (fun _ => True) [s] (.slice (some ⟨W.heap.size, 0, none⟩) 1 1) :=
  ⟨_, 1, rfl, fun x hx => by simp only [List.mem_singleton] at hx; subst hx; exact hs, by simp, fun _ => ⟨_, 0, rfl, trivial, fun i hi => by
    obtain rfl : i = 0 := by simp at hi; omega
    exact (boxN_alloc W [.string s] 9).cell (j := 0) rfl⟩⟩

set_option maxHeartbeats 2000000 in
theorem texts_c (v : ValT) (hv : ValOK v) (a : Option Addr) (n c : Nat) (S : Nat → Prop) (w : World) (h : StrsV w S v.list (.slice a n c)) (hP : Pow w) :
    Calls Tryz.prog 34 #[.agg #[.int .i64 v.kind, .int .i64 v.num, .string v.text, .slice a n c]] w fun e w' => (∃ a' n' c', e = .returned (.slice a' n' c') ∧ StrsV w' (fun _ => True) (textsL v) (.slice a' n' c')) ∧ Below w.heap.size w w' := by
  obtain ⟨w1, hw1⟩ : ∃ w1, w.alloc (.cells #[.int .i64 v.kind, .int .i64 v.num, .string v.text, .slice a n c] 31) = w1 := ⟨_, rfl⟩
  have HW1 : Hid (Below w.heap.size w w1 ∧ BoxN w1 w.heap.size [.int .i64 v.kind, .int .i64 v.num, .string v.text, .slice a n c] 31) := by
    rw [← hw1]
    exact ⟨below1 _ _, boxN_alloc _ _ _⟩
  have p0 := HW1.out.2.cell (j := 0) rfl
  have p1 := HW1.out.2.cell (j := 1) rfl
  have p2 := HW1.out.2.cell (j := 2) rfl
  have p3 := HW1.out.2.cell (j := 3) rfl
  by_cases h1 : v.kind = 1
  · have HI := Lib.hid (itoa_c v.num hv.num0 hv.num1 w1 (pow_below hP HW1.out.1))
    have HF : Hid (∀ w2, Below w1.heap.size w1 w2 → StrsV (w2.alloc (.cells #[.string (itoaB v.num)] 9)) (fun _ => True) (textsL v) (.slice (some ⟨w2.heap.size, 0, none⟩) 1 1) ∧ Below w.heap.size w (w2.alloc (.cells #[.string (itoaB v.num)] 9))) := fun w2 hb => by
      refine ⟨?_, below_al (HW1.out.1.trans (below_to hb HW1.out.1.size)) (Nat.le_refl _) _⟩
      unfold textsL
      rw [if_pos h1]
      exact one_str w2 _ (by have := itoa_size v.num hv.num0 hv.num1; unfold maxLen; omega)
    rw [h1] at p0 hw1 ⊢
    generalize itoaB v.num = t at HI HF
    clear h1 hv h hP
    go_enter Tryz.func34, Tryz.ntmps34
    go_wp2_with (go_at_call 50; refine HI.out.mono ?_; rintro e w2 ⟨rfl, hb2⟩)
    have HF2 := Lib.hid (HF.out _ hb2)
    go_ret
    exact ⟨⟨_, _, _, rfl, HF2.out.1⟩, HF2.out.2⟩
  · by_cases h2 : v.kind = 2
    · have HF : Hid (StrsV (w1.alloc (.cells #[.string v.text] 9)) (fun _ => True) (textsL v) (.slice (some ⟨w1.heap.size, 0, none⟩) 1 1) ∧ Below w.heap.size w (w1.alloc (.cells #[.string v.text] 9))) := by
        refine ⟨?_, below_al HW1.out.1 (Nat.le_refl _) _⟩
        unfold textsL
        rw [if_neg h1, if_pos h2]
        exact one_str w1 _ (by have := hv.text; unfold maxLen; omega)
      rw [h2] at p0 hw1 ⊢
      clear h1 h2 hv h hP
      go_enter Tryz.func34, Tryz.ntmps34
      go_wp2_with fail
      go_ret
      exact ⟨⟨_, _, _, rfl, HF.out.1⟩, HF.out.2⟩
    · have HF : Hid (StrsV w1 (fun _ => True) (textsL v) (.slice a n c) ∧ Below w.heap.size w w1) := by
        refine ⟨?_, HW1.out.1⟩
        unfold textsL
        rw [if_neg h1, if_neg h2]
        exact (h.keep (fun _ _ => trivial) (fun _ _ _ => rfl)).below HW1.out.1
      have k1 : (v.kind == 1) = false := by simpa using h1
      have k2 : (v.kind == 2) = false := by simpa using h2
      clear h1 h2 hv h hP
      go_enter Tryz.func34, Tryz.ntmps34
      go_wp2_with fail
      go_ret
      exact ⟨⟨_, _, _, rfl, HF.out.1⟩, HF.out.2⟩
end Go.Proofs.YtnplmembdfklcaaGreatDoor
namespace Go.Proofs.YtnplmembdfklcaaGreatDoor
set_option linter.unusedVariables false
set_option linter.unusedSimpArgs false
open Go.RowKit Go.Maps

theorem nodup_len : ∀ (N : Nat) (l : List Int), l.Nodup → (∀ x ∈ l, 0 ≤ x ∧ x < (N : Int)) → l.length ≤ N
  | 0, l, _, h => by
    cases l with
    | nil => exact Nat.le_refl _
    | cons x l => have := h x (by simp); omega
  | N + 1, l, hn, h => by
    by_cases hN : (N : Int) ∈ l
    · have h1 := List.length_erase_of_mem hN
      have h2 := nodup_len N (l.erase N) (hn.erase _) (fun x hx => by
        have h3 := (hn.mem_erase_iff).1 hx
        have h4 := h x h3.2
        have h5 : x ≠ (N : Int) := h3.1
        omega)
      omega
    · have := nodup_len N l hn (fun x hx => by
        have h4 := h x hx
        have h5 : x ≠ (N : Int) := fun e => hN (e ▸ hx)
        omega)
      omega
theorem sort_rising {l : List Int} (h : l.Nodup) : Rising (l.mergeSort fun x y => decide (x ≤ y)) := by
  have h1 : (l.mergeSort fun x y => decide (x ≤ y)).Pairwise (fun a b => decide (a ≤ b) = true) :=
    List.pairwise_mergeSort (fun a b c h1 h2 => by simp only [decide_eq_true_eq] at *; omega) (fun a b => by simp only [Bool.or_eq_true, decide_eq_true_eq]; omega) l
  have h2 : (l.mergeSort fun x y => decide (x ≤ y)).Nodup := (List.mergeSort_perm l _).nodup_iff.2 h
  exact (h1.and h2).imp fun {a b} h => by
    have h3 := h.1
    have h4 : a ≠ b := h.2
    simp only [decide_eq_true_eq] at h3
    show a < b
    omega
theorem mem_sort {l : List Int} {x : Int} : x ∈ (l.mergeSort fun x y => decide (x ≤ y)) ↔ x ∈ l := (List.mergeSort_perm l _).mem_iff

/-- What Search answers. -/
def SearchPost (st : StT) (how : Int) (key p : ByteArray) (w : World) (e : Ending) (w' : World) : Prop :=
  (if how < 1 ∨ 4 < how then e = .returned (.tuple #[.slice none 0 0, .int .i64 1])
    else if st.kind key = none then e = .returned (.tuple #[.slice none 0 0, .int .i64 84])
    else ∃ l a c, e = .returned (.tuple #[.slice a l.length c, .int .i64 0]) ∧ Rising l ∧ (∀ id, id ∈ l ↔ hitB st how key p id = true) ∧ l.length ≤ 65536 ∧ CutI w' a l.length c l) ∧ Below w.heap.size w w'

/-- What the loop keeps. -/
structure SInv (w1 : World) (V n : Nat) (D : DataW Value) (st : StT) (how : Int) (key p : ByteArray) (left : Lit → Bool) (cnt : Nat) (outs : List Int) (v : Value) (m : Nat) (wr : World) : Prop where
  rg : wr.ranges Tryz.prog 3 rawE V w1.heap.size n D left cnt
  below : Below w1.heap.size w1 wr
  row : wr.ownsRow (w1.heap.size + 1) 3 1 v m (outs.map (Value.int .i64))
  len : outs.length = m
  nodup : outs.Nodup
  mem : ∀ id, id ∈ outs ↔ (hitB st how key p id = true ∧ left (.int .i64 id) = false)
  sub : ∀ kl, left kl = true → has D kl = true

theorem hit_id {st : StT} (hok : StOK st) {how : Int} {key p : ByteArray} {id : Int} (h : hitB st how key p id = true) : 0 ≤ id ∧ id ≤ 65535 := by
  unfold hitB at h
  cases hv : st.val id key with
  | none => rw [hv] at h; cases h
  | some v => exact (hok id key v hv).2
theorem SInv.small {w1 : World} {V n : Nat} {D : DataW Value} {st : StT} {how : Int} {key p : ByteArray} {left : Lit → Bool} {cnt : Nat} {outs : List Int} {v : Value} {m : Nat} {wr : World} (h : SInv w1 V n D st how key p left cnt outs v m wr) (hok : StOK st) : m ≤ 65536 := by
  rw [← h.len]
  exact nodup_len 65536 outs h.nodup fun x hx => by have := hit_id hok ((h.mem x).1 hx).1; omega
theorem sameKey_int {a b : Int} : (Lit.int .i64 a).sameKey (Lit.int .i64 b) = decide (a = b) := by
  by_cases h : a = b
  · subst h; simp [Lit.sameKey]
  · simp [Lit.sameKey, h]

/-- The search goes on: the key that has come is struck. -/
theorem SInv.skip {w1 : World} {V n : Nat} {D : DataW Value} {st : StT} {how : Int} {key p : ByteArray} {left : Lit → Bool} {cnt cnt1 : Nat} {outs : List Int} {v : Value} {m : Nat} {wr w2 w3 : World} {id : Int} (h : SInv w1 V n D st how key p left cnt outs v m wr) (hV : V < w1.heap.size)
    (hrg : w2.ranges Tryz.prog 3 rawE V w1.heap.size n D (fun z => left z && !z.sameKey (.int .i64 id)) cnt1) (hg : wr.grownBy w2 (some w1.heap.size)) (hs : w2.heap.size = wr.heap.size) (hb : Below w2.heap.size w2 w3) (hl : left (.int .i64 id) = true) (hh : hitB st how key p id = false) :
    SInv w1 V n D st how key p (fun z => left z && !z.sameKey (.int .i64 id)) cnt1 outs v m w3 := by
  have hb2 : Below w1.heap.size w1 w2 := h.below.grown hg h.below.size (fun k e => by cases e; exact Nat.le_refl _)
  refine ⟨?_, hb2.trans (below_to hb hb2.size), ownsRow_below (ownsRow_to h.row fun g hgb => hg.block g (h.row.lt g hgb).2 (fun e => by have := (h.row.lt g hgb).1; cases e; omega)) hb, h.len, h.nodup, fun x => ?_, fun kl hk => h.sub kl (by rw [Bool.and_eq_true] at hk; exact hk.1)⟩
  · obtain ⟨es, clock, since, seen, c0, e1, e2, e3, e4, e5, e6⟩ := hrg
    have hr : w1.heap.size < w2.heap.size := (Array.getElem?_eq_some_iff.1 e5).1
    exact ⟨es, clock, since, seen, c0, (hb.block V (by omega)).trans e1, e2, e3, e4, (hb.block _ hr).trans e5, e6⟩
  · rw [h.mem x, sameKey_int]
    by_cases e : x = id
    · subst e; rw [hh]; simp
    · simp [e]

theorem SInv.row_at {w1 : World} {V n : Nat} {D : DataW Value} {st : StT} {how : Int} {key p : ByteArray} {left : Lit → Bool} {cnt : Nat} {outs : List Int} {v : Value} {m : Nat} {wr w2 w3 : World} (h : SInv w1 V n D st how key p left cnt outs v m wr)
    (hg : wr.grownBy w2 (some w1.heap.size)) (hs : w2.heap.size = wr.heap.size) (hb : Below w2.heap.size w2 w3) (o : Obj) : (w3.alloc o).ownsRow (w1.heap.size + 1) 3 1 v m (outs.map (Value.int .i64)) ∧ w1.heap.size + 1 ≤ w3.heap.size := by
  have hr := h.rg.lt
  refine ⟨ownsRow_below (ownsRow_below (ownsRow_to h.row fun g hgb => hg.block g (h.row.lt g hgb).2 (fun e => by have := (h.row.lt g hgb).1; cases e; omega)) hb) (below1 _ _), ?_⟩
  have := hb.size
  omega
/-- The search goes on: the key that has come is found. -/
theorem SInv.add {w1 : World} {V n : Nat} {D : DataW Value} {st : StT} {how : Int} {key p : ByteArray} {left : Lit → Bool} {cnt cnt1 : Nat} {outs : List Int} {v : Value} {m : Nat} {wr w2 w3 w7 : World} {id : Int} (h : SInv w1 V n D st how key p left cnt outs v m wr) (hV : V < w1.heap.size)
    (hrg : w2.ranges Tryz.prog 3 rawE V w1.heap.size n D (fun z => left z && !z.sameKey (.int .i64 id)) cnt1) (hg : wr.grownBy w2 (some w1.heap.size)) (hs : w2.heap.size = wr.heap.size) (hb : Below w2.heap.size w2 w3) (hl : left (.int .i64 id) = true) (hh : hitB st how key p id = true)
    {g cap : Nat} (hown : w7.ownsRow (w1.heap.size + 1) 3 1 (.slice (some ⟨g, 0, none⟩) (m + 1) cap) (m + 1) (outs.map (Value.int .i64) ++ [.int .i64 id])) (hgr : (w3.alloc (.cells #[.int .i64 id] 3)).grownBy w7 v.ownBlock) :
    SInv w1 V n D st how key p (fun z => left z && !z.sameKey (.int .i64 id)) cnt1 (outs ++ [id]) (.slice (some ⟨g, 0, none⟩) (m + 1) cap) (m + 1) w7 := by
  have hb2 : Below w1.heap.size w1 w2 := h.below.grown hg h.below.size (fun k e => by cases e; exact Nat.le_refl _)
  have hb3 := hb2.trans (below_to hb hb2.size)
  have hb4 := below_al hb3 (Nat.le_refl _) (.cells #[.int .i64 id] 3)
  have hlo : ∀ b, v.ownBlock = some b → w1.heap.size + 1 ≤ b := fun b hvb => (h.row.lt b hvb).1
  have hsz : (w3.alloc (.cells #[.int .i64 id] 3)).heap.size = w3.heap.size + 1 := by simp
  refine ⟨?_, hb4.grown hgr hb4.size (fun k e => by have := hlo k e; omega), by rw [List.map_append]; exact hown, by rw [List.length_append, h.len]; rfl, ?_, fun x => ?_, fun kl hk => h.sub kl (by rw [Bool.and_eq_true] at hk; exact hk.1)⟩
  · obtain ⟨es, clock, since, seen, c0, e1, e2, e3, e4, e5, e6⟩ := hrg
    have hr : w1.heap.size < w2.heap.size := (Array.getElem?_eq_some_iff.1 e5).1
    have hb5 := hb.size
    have hk : ∀ b, b ≤ w1.heap.size → w7.heap[b]? = w2.heap[b]? := fun b hb0 => by
      rw [hgr.block b (by omega) (fun e => by have := hlo b e.symm; omega), (below1 w3 _).block b (by omega), hb.block b (by omega)]
    exact ⟨es, clock, since, seen, c0, (hk V (by omega)).trans e1, e2, e3, e4, (hk _ (Nat.le_refl _)).trans e5, e6⟩
  · rw [List.nodup_append]
    refine ⟨h.nodup, List.nodup_cons.2 ⟨by simp, List.nodup_nil⟩, fun a ha b hb' e => ?_⟩
    simp only [List.mem_singleton] at hb'
    subst hb' e
    have := ((h.mem _).1 ha).2
    rw [hl] at this
    cases this
  · rw [List.mem_append, h.mem x, sameKey_int, List.mem_singleton]
    by_cases e : x = id
    · subst e; simp [hh]
    · simp [e]

set_option maxHeartbeats 8000000 in
set_option maxRecDepth 100000 in
theorem search_c {w : World} {B : Nat} {role : Nat → Role} {S K V L : Nat} {vk vd : Value} {ib : Int → Option Nat} {sl : Int → ByteArray → Value} {n : Nat} {st : StT}
    (h : StoreIn w B role S K V L vk vd ib sl n st) (hB : B ≤ w.heap.size) (hok : StOK st) (hP : Pow w) (hM : MaxLenC w) (how : Int) {key : ByteArray} (hkey : key.size ≤ maxLen) {p : ByteArray} (hp : p.size ≤ maxLen) :
    Calls Tryz.prog 14 #[.pointer (some ⟨S, 0, none⟩), .string key, .int .i64 how, .string p] w (SearchPost st how key p w) := by
  obtain ⟨w1, hw1⟩ : ∃ w1, (w.alloc (.cells #[.int .i64 how] 3)).alloc (.cells #[.string p] 9) = w1 := ⟨_, rfl⟩
  have HW1 : Hid (Below w.heap.size w w1 ∧ BoxN w1 w.heap.size [.int .i64 how] 3 ∧ BoxN w1 (w.heap.size + 1) [.string p] 9) := by
    rw [← hw1]
    refine ⟨below2 _ _ _, (boxN_alloc w [.int .i64 how] 3).below (below1 _ _), ?_⟩
    have := boxN_alloc (w.alloc (.cells #[.int .i64 how] 3)) [.string p] 9
    simpa using this
  have c1 := HW1.out.2.1.cell (j := 0) rfl
  have c2 := HW1.out.2.2.cell (j := 0) rfl
  have HE : Hid (∀ e w', (if how < 1 ∨ 4 < how then e = .returned (.tuple #[.slice none 0 0, .int .i64 1])
    else if st.kind key = none then e = .returned (.tuple #[.slice none 0 0, .int .i64 84])
    else ∃ l a c, e = .returned (.tuple #[.slice a l.length c, .int .i64 0]) ∧ Rising l ∧ (∀ id, id ∈ l ↔ hitB st how key p id = true) ∧ l.length ≤ 65536 ∧ CutI w' a l.length c l) → Below w.heap.size w w' → SearchPost st how key p w e w') := fun e w' h1 h2 => ⟨h1, h2⟩
  generalize SearchPost st how key p w = Q at HE ⊢
  by_cases hlow : how < 1 ∨ 4 < how
  · have HF := Lib.hid (HE.out _ w1 (by rw [if_pos hlow]) HW1.out.1)
    clear HE h hok hP hM
    by_cases h1 : how < 1
    · clear hlow
      go_enter Tryz.func14, Tryz.ntmps14
      go_wp2_with fail
      exact HF.out
    · have h4 : 4 < how := hlow.resolve_left h1
      clear hlow
      go_enter Tryz.func14, Tryz.ntmps14
      go_wp2_with fail
      exact HF.out
  · have h1 : ¬ how < 1 := fun e => hlow (.inl e)
    have h4 : ¬ 4 < how := fun e => hlow (.inr e)
    have HE2 : Hid (∀ e w', (if st.kind key = none then e = .returned (.tuple #[.slice none 0 0, .int .i64 84])
      else ∃ l a c, e = .returned (.tuple #[.slice a l.length c, .int .i64 0]) ∧ Rising l ∧ (∀ id, id ∈ l ↔ hitB st how key p id = true) ∧ l.length ≤ 65536 ∧ CutI w' a l.length c l) → Below w.heap.size w w' → Q e w') := fun e w' h1 h2 => HE.out e w' (by rw [if_neg hlow]; exact h1) h2
    clear hlow HE
    have HS1 := Lib.hid (h.below hB HW1.out.1)
    have b1 := HS1.out.box.cell (j := 1) rfl
    have b2 := HS1.out.box.cell (j := 2) rfl
    have hl1 : (Instr.lookup 57 (.map (some K)) (.string key) true).run Tryz.prog w1 = .ok (.tuple #[.int .i64 ((st.kind key).getD 0), .bool (st.kind key).isSome]) w1 := by
      rw [HS1.out.kinds.run_look_ok keyed9 Tryz.underlying57 (Tryz.zeroValue3 w1) (key9 hkey)]
      show Result.ok (Value.tuple #[((st.kind key).map fun (k : Int) => Value.int .i64 k).getD _, .bool ((st.kind key).map fun (k : Int) => Value.int .i64 k).isSome]) w1 = _
      cases st.kind key <;> rfl
    cases hk : st.kind key with
    | none =>
      rw [hk] at hl1
      have HF := Lib.hid (HE2.out _ w1 (by rw [if_pos hk]) HW1.out.1)
      have hl1' : (Instr.lookup 57 (.map (some K)) (.string key) true).run Tryz.prog w1 = .ok (.tuple #[.int .i64 0, .bool false]) w1 := hl1
      clear hl1 h hok hP hM HE2 hk
      go_enter Tryz.func14, Tryz.ntmps14
      go_wp2_with fail
      exact HF.out
    | some kd =>
      rw [hk] at hl1
      have hl1' : (Instr.lookup 57 (.map (some K)) (.string key) true).run Tryz.prog w1 = .ok (.tuple #[.int .i64 kd, .bool true]) w1 := hl1
      have HE3 : Hid (∀ l a c w', Rising l → (∀ id, id ∈ l ↔ hitB st how key p id = true) → l.length ≤ 65536 → CutI w' a l.length c l → Below w.heap.size w w' → Q (.returned (.tuple #[.slice a l.length c, .int .i64 0])) w') := fun l a c w' q1 q2 q3 q4 q5 => HE2.out _ w' (by rw [if_neg (by rw [hk]; simp)]; exact ⟨l, a, c, rfl, q1, q2, q3, q4⟩) q5
      have HV := HS1.out.values
      have hVlt : Hid (V < w1.heap.size) := HV.lt
      obtain ⟨D, hD, hDf⟩ := HV
      replace hDf := Lib.hid hDf
      replace hok := Lib.hid hok
      replace hP := Lib.hid (pow_below hP HW1.out.1)
      replace hM := Lib.hid (hM.below HW1.out.1)
      clear hl1 h HE2 hk
      go_enter Tryz.func14, Tryz.ntmps14
      go_wp2_with (at_range; refine wpList_range_own _ rfl _ 58 rfl 3 66 keyed3 Tryz.underlying58 rawE V n D rfl hD ?_; intro w0 hrg0 hg0 hs0)
      have HI0 : Hid (SInv w1 V n D st how key p (has D) (size D) [] (.slice none 0 0) 0 w0) := by
        have hb0 : Below w1.heap.size w1 w0 := ⟨hg0.os, hg0.tape, hg0.output, hg0.size, fun b hb => hg0.block b hb (by simp)⟩
        refine ⟨hrg0, hb0, World.ownsRow_nil _ _ _ _, rfl, List.nodup_nil, fun id => ?_, fun kl h => h⟩
        constructor
        · intro h; cases h
        · rintro ⟨hh, hf⟩
          exfalso
          have hid := hit_id hok.out hh
          have hwf := key3 (keyWf (i := id) (by omega) (by omega))
          have h3 := (hDf.out _ _ hwf).1
          rw [hf] at h3
          unfold hitB at hh
          have h4 : ib id = none := by
            cases hi : ib id with
            | none => rfl
            | some b =>
              have h5 : valuesF ib (.int .i64 id) = some (.map (some b)) := by
                show (ib id).map _ = _
                rw [hi]; rfl
              rw [h5] at h3
              cases h3
          rw [HS1.out.hasv id key h4] at hh
          cases hh
      clear hrg0 hg0 hs0
      go_loopw [12] (fun v12 wr => ∃ left cnt outs m, Hid (SInv w1 V n D st how key p left cnt outs v12 m wr)) (fun _ wr => wr.rangeLeft V w1.heap.size)
      case atStart => exact ⟨_, _, _, _, HI0⟩
      case round =>
        obtain ⟨left, cnt, outs, m, HI⟩ := hrel
        obtain ⟨ra, rc, hv12⟩ := ownsRow_slice HI.out.row
        subst hv12
        have hrg := HI.out.rg
        go_wp2_with (at_next; refine wpList_next_ranges _ rfl _ rfl 3 keyed3 rawE id id (fun key _ _ => ⟨key, rfl⟩) (fun v _ _ => ⟨v, rfl⟩) V w1.heap.size n _ _ _ rfl hrg ?_ ?_)
        · intro hc0 hl0
          have HSORT : Hid (Calls Tryz.prog 36 #[.slice ra m rc] wr fun e w' => e = .returned (.tuple #[]) ∧ OwnI w1 (.slice ra m rc) (outs.mergeSort fun x y => decide (x ≤ y)) w') := by
            refine sortS_in ⟨?_, HI.out.below⟩ (by have := HI.out.small hok.out; rw [HI.out.len]; omega)
            rw [HI.out.len]
            exact ownsRow_base HI.out.row (by omega)
          have HFIN : Hid (∀ w', OwnI w1 (.slice ra m rc) (outs.mergeSort fun x y => decide (x ≤ y)) w' → Q (.returned (.tuple #[.slice ra m rc, .int .i64 0])) w') := fun w' ho => by
            have hml : (outs.mergeSort fun x y => decide (x ≤ y)).length = m := by rw [List.length_mergeSort, HI.out.len]
            obtain ⟨A, n', c', hv, hc⟩ := ho.sliceI
            injection hv with e1 e2 e3
            subst e1 e2 e3
            have := HE3.out (outs.mergeSort fun x y => decide (x ≤ y)) ra rc w' (sort_rising HI.out.nodup) (fun id => by
              rw [mem_sort, HI.out.mem id]
              exact ⟨fun h => h.1, fun h => ⟨h, hl0 _⟩⟩) (by rw [hml]; exact HI.out.small hok.out) (by rw [hml]; exact hc) (HW1.out.1.trans (below_to ho.2 HW1.out.1.size))
            rw [hml] at this
            exact this
          clear HI hrg hD hc0 hl0 HI0
          go_wp2_with (go_at_call 36; refine HSORT.out.mono ?_; rintro e w2 ⟨rfl, ho2⟩)
          exact HFIN.out _ ho2
        · intro x c kl yd yp w2 cnt1 hkx hlx hvc hat hrg1 hlt hg1 hs1 hen
          obtain ⟨id, rfl, rfl, hidw⟩ := keyOf_int_inv Tryz.underlying3 hkx
          have hh0 := HI.out.sub _ hlx
          obtain ⟨hd1, hd2⟩ := hDf.out _ _ hkx
          rw [hh0] at hd1
          obtain ⟨b, hib⟩ : ∃ b, ib id = some b := by
            cases hi : ib id with
            | some b => exact ⟨b, rfl⟩
            | none =>
              have h5 : valuesF ib (.int .i64 id) = none := by
                show (ib id).map _ = _
                rw [hi]; rfl
              rw [h5] at hd1
              cases hd1
          have hvf : valuesF ib (.int .i64 id) = some (.map (some b)) := by
            show (ib id).map _ = _
            rw [hib]; rfl
          obtain rfl : c = .map (some b) := by
            have h6 := hat (.held c)
            rw [hd2 _ hvf] at h6
            simp only [rawE, Option.some.injEq, Prod.mk.injEq] at hvc
            rw [← hvc.1] at h6
            injection h6 with h6
            exact h6.symm
          clear hd1 hd2 hvf hvc hat hh0
          have HB2 : Hid (Below w1.heap.size w1 w2) := HI.out.below.grown hg1 HI.out.below.size (fun k e => by cases e; exact Nat.le_refl _)
          have HS2 := Lib.hid (HS1.out.below (Nat.le_trans hB HW1.out.1.size) HB2.out)
          have hli := HS2.out.look_inner id hkey
          rw [hib] at hli
          have HX : Hid (keyOf Tryz.prog 3 (.int .i64 id) = some (.int .i64 id) ∧ left (.int .i64 id) = true ∧ w2.ranges Tryz.prog 3 rawE V w1.heap.size n D (fun z => left z && !z.sameKey (.int .i64 id)) cnt1 ∧ cnt1 < cnt ∧ wr.grownBy w2 (some w1.heap.size) ∧ w2.heap.size = wr.heap.size) := ⟨hkx, hlx, hrg1, hlt, hg1, hs1⟩
          clear hkx hlx hrg1 hlt hg1 hs1 hidw
          cases hv : st.val id key with
          | none =>
            rw [hv] at hli
            have hli' : (Instr.lookup 66 (.map (some b)) (.string key) true).run Tryz.prog w2 = .ok (.tuple #[.agg #[.int .i64 0, .int .i64 0, .string ⟨#[]⟩, .slice none 0 0], .bool false]) w2 := hli
            clear hli
            have HNX : Hid (∀ w3, Below w2.heap.size w2 w3 → SInv w1 V n D st how key p (fun z => left z && !z.sameKey (.int .i64 id)) cnt1 outs (.slice ra m rc) m w3) := fun w3 hb3 => HI.out.skip hVlt.out HX.out.2.2.1 HX.out.2.2.2.2.1 HX.out.2.2.2.2.2 hb3 HX.out.2.1 (by unfold hitB; rw [hv])
            clear hv
            go_wp2_with fail
            go_roundw
            case rel => exact ⟨_, _, _, _, HNX.out _ (below1 _ _)⟩
            case measure => rw [(HNX.out _ (below1 _ _)).rg.left_eq, HI.out.rg.left_eq]; exact HX.out.2.2.2.1
          | some v =>
            rw [hv] at hli
            have hvo := (hok.out id key v hv).1
            have hco := HS2.out.cont id key v hv
            have hco' := hco
            obtain ⟨sa, sc, hsl, _⟩ := hco'
            rw [hsl] at hco hli
            obtain ⟨ln, hln⟩ : ∃ ln, v.list.length = ln := ⟨_, rfl⟩
            rw [hln] at hco hli
            have hli' : (Instr.lookup 66 (.map (some b)) (.string key) true).run Tryz.prog w2 = .ok (.tuple #[.agg #[.int .i64 v.kind, .int .i64 v.num, .string v.text, .slice sa ln sc], .bool true]) w2 := hli
            clear hli
            have hb23 : Below w2.heap.size w2 (w2.alloc (.cells #[.int .i64 v.kind, .int .i64 v.num, .string v.text, .slice sa ln sc] 31)) := below1 _ _
            obtain ⟨w3, hw3⟩ : ∃ w3, w2.alloc (.cells #[.int .i64 v.kind, .int .i64 v.num, .string v.text, .slice sa ln sc] 31) = w3 := ⟨_, rfl⟩
            have HX3 : Hid (Below w2.heap.size w2 w3 ∧ BoxN w3 w2.heap.size [.int .i64 v.kind, .int .i64 v.num, .string v.text, .slice sa ln sc] 31) := by
              rw [← hw3]
              exact ⟨below1 _ _, boxN_alloc _ _ _⟩
            have HB3 : Hid (Below w1.heap.size w1 w3) := HB2.out.trans (below_to HX3.out.1 HB2.out.size)
            have p0 := HX3.out.2.cell (j := 0) rfl
            have p1 := HX3.out.2.cell (j := 1) rfl
            have p2 := HX3.out.2.cell (j := 2) rfl
            have p3 := HX3.out.2.cell (j := 3) rfl
            have HT := Lib.hid (texts_c v hvo sa ln sc _ w3 (hco.below HX3.out.1) (pow_below hP.out HB3.out))
            obtain ⟨R, hR⟩ : ∃ R, hitB st how key p id = R := ⟨_, rfl⟩
            have HA : Hid (∀ a' n' c' w4, StrsV w4 (fun _ => True) (textsL v) (.slice a' n' c') → Below w3.heap.size w3 w4 →
                Calls Tryz.prog 33 #[.slice a' n' c', .func (.func 35) #[] #[.pointer (some ⟨w.heap.size, 0, none⟩), .pointer (some ⟨w.heap.size + 1, 0, none⟩)]] w4 fun e w' => e = .returned (.bool R) ∧ Below w2.heap.size w2 w') := fun a' n' c' w4 hs4 hb4 => by
              have hb14 := HB3.out.trans (below_to hb4 HB3.out.size)
              have := anyFits_c (textsL v) (textsL_size hvo) a' n' c' _ w4 hs4 how p hp w.heap.size (w.heap.size + 1) (hM.out.below hb14) (cell_tr hb14 c1) (cell_tr hb14 c2)
              refine this.mono fun e w' ⟨h1, h2⟩ => ⟨?_, (HX3.out.1.trans (below_to hb4 HX3.out.1.size)).trans (below_to h2 (Nat.le_trans HX3.out.1.size hb4.size))⟩
              rw [h1, ← hR]
              unfold hitB
              rw [hv]
              rfl
            have hm := HI.out.small hok.out
            clear hco hsl hvo hb23 hv hln
            generalize v.kind = kd4, v.num = nm4, v.text = tx4 at hli' hw3 p0 p1 p2 HT
            cases R with
            | false =>
              have HNX : Hid (∀ w3, Below w2.heap.size w2 w3 → SInv w1 V n D st how key p (fun z => left z && !z.sameKey (.int .i64 id)) cnt1 outs (.slice ra m rc) m w3) := fun w3 hb3 => HI.out.skip hVlt.out HX.out.2.2.1 HX.out.2.2.2.2.1 HX.out.2.2.2.2.2 hb3 HX.out.2.1 hR
              replace hR := Lib.hid hR
              go_wp2_with (first | (go_at_call 34; refine HT.out.mono ?_; rintro e w4 ⟨⟨a', n', c', rfl, hs4⟩, hb4⟩) | (go_at_call 33; refine (HA.out _ _ _ _ hs4 hb4).mono ?_; rintro e w5 ⟨rfl, hb5⟩))
              go_roundw
              case rel => exact ⟨_, _, _, _, HNX.out _ hb5⟩
              case measure => rw [(HNX.out _ hb5).rg.left_eq, HI.out.rg.left_eq]; exact HX.out.2.2.2.1
            | true =>
              have HROW : Hid (∀ w3, Below w2.heap.size w2 w3 → (w3.alloc (.cells #[.int .i64 id] 3)).ownsRow (w1.heap.size + 1) 3 1 (.slice ra m rc) m (outs.map (Value.int .i64)) ∧ w1.heap.size + 1 ≤ w3.heap.size) := fun w3 hb3 => HI.out.row_at HX.out.2.2.2.2.1 HX.out.2.2.2.2.2 hb3 _
              have HNX : Hid (∀ w5, Below w2.heap.size w2 w5 → ∀ g cap w7, w7.ownsRow (w1.heap.size + 1) 3 1 (.slice (some ⟨g, 0, none⟩) (m + 1) cap) (m + 1) (outs.map (Value.int .i64) ++ [.int .i64 id]) → (w5.alloc (.cells #[.int .i64 id] 3)).grownBy w7 (Value.slice ra m rc).ownBlock →
                  SInv w1 V n D st how key p (fun z => left z && !z.sameKey (.int .i64 id)) cnt1 (outs ++ [id]) (.slice (some ⟨g, 0, none⟩) (m + 1) cap) (m + 1) w7) := fun w5 hb5 g cap w7 q1 q2 => HI.out.add hVlt.out HX.out.2.2.1 HX.out.2.2.2.2.1 HX.out.2.2.2.2.2 hb5 HX.out.2.1 hR q1 q2
              replace hR := Lib.hid hR
              obtain ⟨i3, hi3, hz30, hz31, hz32⟩ := info_parts info3
              go_wp2_with (first | (go_at_call 34; refine HT.out.mono ?_; rintro e w4 ⟨⟨a', n', c', rfl, hs4⟩, hb4⟩) | (go_at_call 33; refine (HA.out _ _ _ _ hs4 hb4).mono ?_; rintro e w5 ⟨rfl, hb5⟩) | (at_builtin; refine wpList_append_lies _ rfl (.tmp 61) (.tmp 63) 37 rfl (w1.heap.size + 1) 3 i3 (.int .i64 0) 1 8 Tryz.underlying37 hi3 hz30 hz31 hz32 rfl (by decide) (.slice ra m rc) m (outs.map (Value.int .i64)) rfl (HROW.out _ hb5).1 ⟨w5.heap.size, 0, none⟩ 1 1 [.int .i64 id] rfl rfl (World.news_of_block (cs := #[.int .i64 id]) (t := 3) (fr := (0, 0)) (heap_alloc_new w5 _)) (by simp [Value.oneCell']) (by omega) (by unfold maxLen; omega) (by omega) (Nat.le_trans (HROW.out _ hb5).2 (by simp)) (w5.heap.size + 1) (by simp) ?_; intro g cap w7 hown7 hgrow7 hat7 hlt7))
              have HFIN := Lib.hid (HNX.out _ hb5 _ _ _ hown7 hgrow7)
              clear hown7 hgrow7 hat7 hlt7 HNX HROW
              go_roundw
              case rel => exact ⟨_, _, _, _, HFIN⟩
              case measure => rw [HFIN.out.rg.left_eq, HI.out.rg.left_eq]; exact HX.out.2.2.2.1
end Go.Proofs.YtnplmembdfklcaaGreatDoor
