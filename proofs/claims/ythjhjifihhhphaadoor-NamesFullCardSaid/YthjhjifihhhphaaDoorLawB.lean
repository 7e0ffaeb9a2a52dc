/-
  NamesFull: the plain side (the names n1, n2, ..), and the walk. Helper text; the conditions are those typed.
-/
import Derived.Test.YthjhjifihhhphaaDoorLawA
import Derived.Test.YthjhjifihhhphaaDoorShelf
import Derived.Lib.ItoaLen
import Derived.Lib.ItoaMem
namespace Go.Proofs.YthjhjifihhhphaaDoor
set_option linter.unusedVariables false
set_option linter.unusedSimpArgs false
open Go.RowKit Go.Maps

/-- The number that decimal digits spell. -/
def spelt (l : List UInt8) : Nat := l.foldl (fun a c => a * 10 + (c.toNat - 48)) 0

theorem digit_val {d : Nat} (h : d < 10) : (UInt8.ofNat (48 + d)).toNat - 48 = d := by
  simp [UInt8.toNat_ofNat']
  omega

theorem spelt_decDigits (u : Nat) : spelt (Lib.decDigits u) = u := by
  induction u using Nat.strongRecOn with
  | ind u ih =>
    rw [Lib.decDigits]
    split
    · rename_i h
      show 0 * 10 + ((UInt8.ofNat (48 + u)).toNat - 48) = u
      rw [digit_val h]
      omega
    · rename_i h
      unfold spelt
      rw [List.foldl_append]
      have := ih (u / 10) (by omega)
      unfold spelt at this
      rw [this]
      show u / 10 * 10 + ((UInt8.ofNat (48 + u % 10)).toNat - 48) = u
      rw [digit_val (by omega)]
      omega

/-- The name of number i. -/
def nm (i : Nat) : ByteArray := (⟨#[110]⟩ : ByteArray) ++ (⟨(Lib.itoa (i : Int)).toArray⟩ : ByteArray)

theorem nm_list (i : Nat) : (nm i).data.toList = 110 :: Lib.decDigits i := by
  unfold nm
  rw [ByteArray.data_append, Lib.itoa_nonneg]
  simp

theorem nm_inj {i j : Nat} (h : nm i = nm j) : i = j := by
  have h2 : (nm i).data.toList = (nm j).data.toList := by rw [h]
  rw [nm_list, nm_list] at h2
  have h3 := (List.cons.inj h2).2
  have := congrArg spelt h3
  rwa [spelt_decDigits, spelt_decDigits] at this

theorem nm_size (i : Nat) (h : i ≤ 5000) : (nm i).size ≤ 22 := by
  have h1 : (nm i).size = (nm i).data.toList.length := Array.length_toList.symm
  have h2 := Lib.itoa_length_le (i : Int) (by omega) (by omega)
  rw [Lib.itoa_nonneg] at h2
  rw [h1, nm_list]
  simp
  omega

theorem nm_ne {i : Nat} {s : ByteArray} (h : s.data.toList.head? ≠ some 110) : nm i ≠ s := by
  intro e
  rw [← e, nm_list] at h
  simp at h

/-- The table behind k names. -/
def full (k : Nat) : Tab := { names := ByteArray.empty :: (List.range k).map (fun j => nm (j + 1)), rels := [] }

theorem full_zero : full 0 = Tab.new := rfl
theorem full_len (k : Nat) : (full k).names.length = k + 1 := by simp [full]
theorem full_none {k : Nat} {s : ByteArray} (h0 : s ≠ ByteArray.empty) (h : ∀ j, j < k → nm (j + 1) ≠ s) : pos (full k).names s = none := by
  rw [pos_none]
  intro hm
  simp only [full, List.mem_cons, List.mem_map, List.mem_range] at hm
  rcases hm with hm | ⟨j, hj, hm⟩
  · exact h0 hm
  · exact h j hj hm

theorem nm_ne_empty (i : Nat) : nm i ≠ ByteArray.empty := nm_ne (by decide)

theorem full_step {k : Nat} (h : k < 4999) : (full k).addRes (nm (k + 1)) = (((k + 1 : Nat) : Int), 0) ∧ (full k).add (nm (k + 1)) = full (k + 1) := by
  have h1 := nm_size (k + 1) (by omega)
  have h2 : pos (full k).names (nm (k + 1)) = none := full_none (nm_ne_empty _) (fun j hj e => by have := nm_inj e; omega)
  have h3 := full_len k
  constructor
  · unfold Tab.addRes
    rw [if_neg (by omega), h2]
    simp only [h3]
    rw [if_neg (by omega)]
  · unfold Tab.add
    rw [if_neg (by omega), h2]
    simp only [h3]
    rw [if_neg (by omega)]
    simp [full, List.range_succ]

theorem full_ok : ∀ k, k ≤ 4999 → (full k).Ok
  | 0, _ => Tab.new_ok
  | k + 1, h => by
    rw [← (full_step (k := k) (by omega)).2]
    exact Tab.add_ok (full_ok k (by omega)) _

theorem full_more : (full 4999).addRes ⟨#[109, 111, 114, 101]⟩ = (0, 20) ∧ (full 4999).add ⟨#[109, 111, 114, 101]⟩ = full 4999 := by
  have h2 : pos (full 4999).names ⟨#[109, 111, 114, 101]⟩ = none := full_none (by decide) (fun j hj => nm_ne (by simp))
  have h3 := full_len 4999
  have h1 : ¬ 60 < (⟨#[109, 111, 114, 101]⟩ : ByteArray).size := by decide
  constructor
  · unfold Tab.addRes
    rw [if_neg h1, h2]
    simp only [h3]
    rw [if_pos (by omega)]
  · unfold Tab.add
    rw [if_neg h1, h2]
    simp only [h3]
    rw [if_pos (by omega)]

theorem nm_seven : nm 7 = ⟨#[110, 55]⟩ := by
  apply ByteArray.ext
  apply Array.toList_inj.1
  rw [nm_list, Lib.decDigits_one (by omega)]
  rfl

theorem full_get {k j : Nat} (h : j < k) : (full k).names[j + 1]? = some (nm (j + 1)) := by
  simp [full, List.getElem?_range h]

theorem full_seven : (full 4999).addRes ⟨#[110, 55]⟩ = (7, 0) ∧ (full 4999).add ⟨#[110, 55]⟩ = full 4999 := by
  have h2 : pos (full 4999).names ⟨#[110, 55]⟩ = some 7 := by
    rw [← nm_seven]
    exact Tab.pos_unique (full_ok 4999 (by omega)).nodup (full_get (by omega))
  have h1 : ¬ 60 < (⟨#[110, 55]⟩ : ByteArray).size := by decide
  constructor
  · unfold Tab.addRes
    rw [if_neg h1, h2]
    rfl
  · unfold Tab.add
    rw [if_neg h1, h2]

/-- A table of the library's in a variable stays while old memory does. -/
theorem tab_chg {w w' : World} {name : String} {k : IntKind} {zs : List Int} {g : Nat} (hg : Tryd.prog.globalNamed name = some g) (h : Lib.TabIs Tryd.prog w name k zs) (hc : Chg (fun _ => False) w w') : Lib.TabIs Tryd.prog w' name k zs := by
  unfold Lib.TabIs World.var? at h ⊢
  rw [hg] at h ⊢
  simp only [Option.bind_some] at h ⊢
  have hlt : g < w.heap.size := by
    rcases Nat.lt_or_ge g w.heap.size with h' | h'
    · exact h'
    · rw [Array.getElem?_eq_none h'] at h; cases h
  rw [hc.block g hlt (fun h => h)]
  exact h

theorem gPow : Tryd.prog.globalNamed "internal/strconv.uint64pow10" = some 0 := by kernel_rfl

theorem grow_chg (w : World) (k : Nat) (os : Array Obj) : Chg (fun _ => False) w (Sort.grow (w.drewN k) os) :=
  ⟨rfl, rfl, rfl, by simp [Sort.grow, World.drewN], fun i hi _ => by
    show (w.heap ++ os)[i]? = w.heap[i]?
    rw [Array.getElem?_append_left hi]⟩

theorem itoa_own {w0 w : World} {b : Nat} {t : Tab} (h : TabOwn w0 b t w) (htab : Lib.TabIs Tryd.prog w0 "internal/strconv.uint64pow10" .u64 Lib.pow10Tab) (i : Nat) (hi : i ≤ 5000) :
    Calls Tryd.prog 7 #[.int .i64 i] w fun e w' => e = .returned (.string ⟨(Lib.itoa (i : Int)).toArray⟩) ∧ TabOwn w0 b t w' :=
  (Tryd.strconv_Itoa (i : Int) (by omega) (by omega) w (tab_chg gPow htab h.chg)).mono fun e w' ⟨he, k, os, hw⟩ => ⟨he, h.keep (hw ▸ grow_chg w k os)⟩

set_option maxRecDepth 1000000 in
set_option maxHeartbeats 1000000 in
theorem namesFull_walk (w : World) (htab : Lib.TabIs Tryd.prog w "internal/strconv.uint64pow10" .u64 Lib.pow10Tab) : Calls Tryd.prog 3 #[] w fun e w' => e = .returned (.bool true) ∧ Chg (fun _ => False) w w' := by
  have HT := Lib.hid htab
  clear htab
  go_enter Tryd.func3, Tryd.ntmps3
  go_wp2_with fail
  refine (awake_any _).mono ?_
  rintro e w1 ⟨rfl, h1⟩
  have H1 := Lib.hid h1
  clear h1
  go_wp2_with fail
  refine (new_own H1.out).mono ?_
  rintro e w2 ⟨bt, rfl, h2⟩
  have H2 := Lib.hid h2
  clear h2
  go_wp2_with fail
  go_loopw [3] (fun i wr => ∃ (k : Nat), 1 ≤ k ∧ k ≤ 5000 ∧ i = .int .i64 k ∧ TabOwn w bt (full (k - 1)) wr) (fun i _ => 5000 - (intOf i).toNat)
  case atStart => exact ⟨1, by omega, by omega, rfl, H2.out⟩
  case round =>
    obtain ⟨k, hk1, hk, rfl, ht⟩ := hrel
    have HO := Lib.hid ht
    clear ht
    by_cases hkl : k < 5000
    · obtain ⟨j, rfl⟩ : ∃ j, k = j + 1 := ⟨k - 1, by omega⟩
      have hlt : ((j + 1 : Nat) : Int) < 5000 := by omega
      obtain ⟨s1, s2⟩ := full_step (k := j) (by omega)
      have S2 := Lib.hid s2
      have hsz : ¬ (⟨#[110]⟩ : ByteArray).size + (⟨(Lib.itoa ((j + 1 : Nat) : Int)).toArray⟩ : ByteArray).size > 9223372036854775807 := by
        have := Lib.itoa_length_le ((j + 1 : Nat) : Int) (by omega) (by omega)
        simp [ByteArray.size]
        simp at this
        omega
      have hnm : (nm (j + 1)).size ≤ maxLen := by have := nm_size (j + 1) (by omega); unfold maxLen; omega
      have HN := Lib.hid hnm
      clear hnm s2
      obtain ⟨i, hi⟩ : ∃ i, i = ((j + 1 : Nat) : Int) := ⟨_, rfl⟩
      have hIt := itoa_own HO.out HT.out (j + 1) (by omega)
      have hAdd := fun (w' : World) (h : TabOwn w bt (full (j + 1 - 1)) w') => add_own h (nm (j + 1)) HN.out
      have HI := Lib.hid hIt
      have HA := Lib.hid hAdd
      clear hIt hAdd
      go_wp2_with fail
      refine HI.out.mono ?_
      rintro e w3 ⟨rfl, h3⟩
      have H3 := Lib.hid h3
      clear h3
      go_wp2_with fail
      refine (HA.out _ H3.out).mono ?_
      rintro e w4 ⟨rfl, h4⟩
      rw [show j + 1 - 1 = j by omega] at h4 ⊢
      rw [s1]
      rw [S2.out] at h4
      have H4 := Lib.hid h4
      clear h4
      go_wp2
      go_roundw
      case rel => exact ⟨j + 2, by omega, by omega, by go_num, H4.out⟩
      case measure => simp [intOf]; omega
    · have hke : k = 5000 := by omega
      subst hke
      have h1 : TabOwn w bt (full 4999) _ := HO.out
      have H5 := Lib.hid h1
      clear h1
      have m1 := full_more
      have m2 := full_seven
      go_wp2_with fail
      refine (add_own H5.out ⟨#[109, 111, 114, 101]⟩ (by decide)).mono ?_
      rintro e w5 ⟨rfl, h5⟩
      rw [m1.1]
      rw [m1.2] at h5
      have H6 := Lib.hid h5
      clear h5
      go_wp2_with fail
      refine (add_own H6.out ⟨#[110, 55]⟩ (by decide)).mono ?_
      rintro e w6 ⟨rfl, h6⟩
      rw [m2.1]
      rw [m2.2] at h6
      have H7 := Lib.hid h6
      clear h6 m1 m2
      go_wp2_with fail
      refine (len_own H7.out).mono ?_
      rintro e w7 ⟨rfl, rfl⟩
      rw [full_len]
      go_wp2
      go_ret
      exact ⟨by simp, H7.out.chg⟩
end Go.Proofs.YthjhjifihhhphaaDoor
