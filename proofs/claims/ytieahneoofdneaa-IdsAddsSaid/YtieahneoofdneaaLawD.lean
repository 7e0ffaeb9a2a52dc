/-
  The walk of IdsAdds. Helper text; the conditions are those typed.
-/
import Derived.Test.YtieahneoofdneaaWalkF
import Derived.Test.YtieahneoofdneaaArgsB
namespace Go.Proofs.Ytieahneoofdneaa
set_option linter.unusedVariables false
set_option linter.unusedSimpArgs false
open Go.RowKit Go.Maps Go.Shelf Go.Sort

/-- The bytes of all numbers, one behind the other. -/
def encAll (ns : List Nat) : List UInt8 := ns.flatMap Lib.uvarint

theorem encAll_length : ∀ (ns : List Nat), (∀ n ∈ ns, n < 18446744073709551616) → (encAll ns).length ≤ 10 * ns.length
  | [], _ => by simp [encAll]
  | n :: ns, h => by
    have h1 := Lib.uvarint_length64 (h n (by simp))
    have h2 := encAll_length ns (fun m hm => h m (by simp [hm]))
    simp only [encAll, List.flatMap_cons, List.length_append, List.length_cons] at h2 ⊢
    omega

/-- n numbers that came in. -/
def NumsIn (w : World) (a : Option Addr) (ns : List Nat) : Prop :=
  ns = [] ∨ ∃ b off, a = some ⟨b, off, none⟩ ∧ ∀ i (h : i < ns.length), w.cell? ⟨b, off + i, none⟩ = some (.int .u64 (ns[i] : Int))

theorem NumsIn.below {w w' : World} {a : Option Addr} {ns : List Nat} (h : NumsIn w a ns) (hc : Below w.heap.size w w') : NumsIn w' a ns := by
  rcases h with h | ⟨b, off, rfl, hcell⟩
  · exact .inl h
  · exact .inr ⟨b, off, rfl, fun i hi => (World.cell?_of_block (w := w) (hc.block b (World.block_lt_of_cell? w _ (hcell i hi)))).trans (hcell i hi)⟩

/-- v is a slice that reads as the bytes l, its length within its capacity. -/
def SliceB (w : World) (v : Value) (l : List UInt8) : Prop := ∃ a c, v = .slice a l.length c ∧ BytesAt w a l ∧ l.length ≤ c ∧ c ≤ maxLen

/-- What a slice of bytes reads as, its length within its capacity. -/
def CutB (w : World) (A : Option Addr) (n c : Nat) (l : List UInt8) : Prop := n = l.length ∧ BytesAt w A l ∧ n ≤ c ∧ c ≤ maxLen

theorem CutB.step {w : World} {A : Option Addr} {n c j : Nat} {ns : List Nat} (hj : j < ns.length) (hm : ns[j] < 18446744073709551616) (h : CutB w A n c (encAll (ns.drop j))) :
    ∃ k, 1 ≤ k ∧ k ≤ n ∧ k ≤ 10 ∧ Calls Try.prog 10 #[.slice A n c] w (TakeRes (ns[j], k, 0) w) ∧
      CutB w (if c = k then A else A.map (·.add k)) (n - k) (c - k) (encAll (ns.drop (j + 1))) := by
  obtain ⟨rfl, hb, hc, hmx⟩ := h
  have he : encAll (ns.drop j) = Lib.uvarint ns[j] ++ encAll (ns.drop (j + 1)) := by
    unfold encAll
    rw [List.drop_eq_getElem_cons hj, List.flatMap_cons]
  have ht := take_in hb c (by unfold maxLen at *; omega)
  have e1 : takeB 0 0 (encAll (ns.drop j)) = (ns[j], (Lib.uvarint ns[j]).length, 0) := by rw [he, take_back hm]
  rw [e1] at ht
  have h1 := Lib.uvarint_pos ns[j]
  have h2 := Lib.uvarint_length64 hm
  have hlen : (encAll (ns.drop j)).length = (Lib.uvarint ns[j]).length + (encAll (ns.drop (j + 1))).length := by rw [he, List.length_append]
  refine ⟨_, h1, by omega, h2, ht, by omega, ?_, by omega, by unfold maxLen at *; omega⟩
  by_cases hr : encAll (ns.drop (j + 1)) = []
  · exact .inl hr
  · have hrl : 0 < (encAll (ns.drop (j + 1))).length := List.length_pos_iff.2 hr
    rcases hb with h0 | ⟨b, off, rfl, hcell⟩
    · rw [h0] at hlen; simp at hlen; omega
    · rw [if_neg (by omega)]
      refine .inr ⟨b, off + (Lib.uvarint ns[j]).length, ?_, fun i hi => ?_⟩
      · show some ((⟨b, off, none⟩ : Addr).add _) = _
        unfold Addr.add
        rw [if_neg (by omega)]
      · rw [Nat.add_assoc, hcell _ (by omega), he]
        simp [List.getD, List.getElem?_append_right]

set_option maxHeartbeats 1000000 in
set_option maxRecDepth 100000 in
theorem idsAdds_walk (w : World) (a : Option Addr) (cap : Nat) (ns : List Nat) (hn : ∀ n ∈ ns, n < 18446744073709551616) (hu : NumsIn w a ns) (hl : ns.length * 8 ≤ 140737488351232) :
    Calls Try.prog 6 #[.slice a ns.length cap] w fun e w' => e = .returned (.bool true) ∧ Below w.heap.size w w' := by
  have HNs := Lib.hid hn
  clear hn
  go_enter Try.func6, Try.ntmps6
  go_wp2_with fail
  refine (awake_any w).mono ?_
  rintro e w1 ⟨rfl, h1⟩
  have U1 := Lib.hid (hu.below h1)
  have B1 := Lib.hid h1
  clear h1 hu
  go_wp2_with fail
  go_loopw [4, 5] (fun vb vi wr => ∃ (k : Nat) (g : Value), k ≤ ns.length ∧ g = vb ∧ vi = .int .i64 k ∧ SliceB wr g (encAll (ns.take k)) ∧ Below w1.heap.size w1 wr) (fun _ vi _ => ns.length - (intOf vi).toNat)
  case atStart => exact ⟨0, _, Nat.zero_le _, rfl, rfl, ⟨none, 0, rfl, .inl rfl, Nat.zero_le _, Nat.zero_le _⟩, Below.refl _ _⟩
  case round =>
    obtain ⟨k, g, hk, rfl, rfl, ⟨ag, cg, rfl, hbg, hcg, hmg⟩, hbel⟩ := hrel
    have HG := Lib.hid hbg
    have HB := Lib.hid hbel
    have HU := Lib.hid (U1.out.below hbel)
    clear hbg hbel
    by_cases hkl : k < ns.length
    · obtain ⟨b, off, rfl, hc⟩ : ∃ b off, a = some ⟨b, off, none⟩ ∧ wr.cell? ⟨b, off + k, none⟩ = some (.int .u64 (ns[k] : Int)) := by
        rcases HU.out with h0 | ⟨b, off, e, hc⟩
        · rw [h0] at hkl; simp at hkl
        · exact ⟨b, off, e, hc k hkl⟩
      have hlt : (k : Int) < (ns.length : Int) := by omega
      have hm : ns[k] < 18446744073709551616 := HNs.out _ (List.getElem_mem hkl)
      have hlen := encAll_length (ns.take k) (fun m h => HNs.out m (List.mem_of_mem_take h))
      have hlk : (ns.take k).length = k := by simp; omega
      have he : encAll (ns.take k) ++ Lib.uvarint ns[k] = encAll (ns.take (k + 1)) := by
        unfold encAll
        rw [List.take_succ_eq_append_getElem hkl, List.flatMap_append]
        simp only [List.flatMap_cons, List.flatMap_nil, List.append_nil]
      have HE := Lib.hid he
      clear he
      go_wp2_with fail
      refine (put_wide HG.out cg ns[k] hm (by omega)).mono ?_
      rintro e w3 ⟨v3, rfl, h3⟩
      have hs := h3.slice2
      rw [HE.out] at hs
      have HS := Lib.hid hs
      have HB3 := Lib.hid (HB.out.trans (Below.to h3.2 HB.out.size))
      clear h3 hs
      go_wp2
      go_roundw
      case rel => exact ⟨k + 1, _, by omega, rfl, by go_num, HS.out, HB3.out⟩
      case measure => simp [intOf]; omega
    · have HC : Hid (CutB wr ag (encAll (ns.take k)).length cg (encAll (ns.drop 0))) := by
        have e1 : ns.take k = ns := List.take_of_length_le (by omega)
        have h1 := HG.out
        rw [e1] at hcg h1 ⊢
        exact ⟨rfl, h1, hcg, hmg⟩
      generalize (encAll (ns.take k)).length = n0 at HC
      have hge : ¬ (k : Int) < (ns.length : Int) := by omega
      clear HG hcg hmg hkl
      go_wp2_with fail
      go_loopw [4, 6] (fun vb vi wr' => ∃ (j n : Nat) (A : Option Addr) (c : Nat), j ≤ ns.length ∧ vb = .slice A n c ∧ vi = .int .i64 j ∧ Hid (CutB wr A n c (encAll (ns.drop j))) ∧ wr = wr') (fun _ vi _ => ns.length - (intOf vi).toNat)
      case atStart => exact ⟨0, _, _, _, Nat.zero_le _, rfl, rfl, HC, rfl⟩
      case round =>
        clear HC
        obtain ⟨j, n, A, c, hj, rfl, rfl, HC, rfl⟩ := hrel
        by_cases hjl : j < ns.length
        · obtain ⟨b, off, rfl, hc⟩ : ∃ b off, a = some ⟨b, off, none⟩ ∧ wr.cell? ⟨b, off + j, none⟩ = some (.int .u64 (ns[j] : Int)) := by
            rcases HU.out with h0 | ⟨b, off, e, hc⟩
            · rw [h0] at hjl; simp at hjl
            · exact ⟨b, off, e, hc j hjl⟩
          have hlt : (j : Int) < (ns.length : Int) := by omega
          obtain ⟨q, hq1, hq2, hq3, hT, hcut⟩ := CutB.step hjl (HNs.out _ (List.getElem_mem hjl)) HC.out
          have HT := Lib.hid hT
          have HCut := Lib.hid hcut
          have hnc : n ≤ c := HC.out.2.2.1
          have hcm : c ≤ 9223372036854775807 := HC.out.2.2.2
          generalize ns[j] = m at hc HT
          clear hT hcut HC
          go_wp2_with fail
          refine HT.out.mono ?_
          rintro e w' ⟨rfl, rfl⟩
          have d1 : ¬ ((q : Int) < 1) := by omega
          have d2 : ¬ ((n : Int) < (q : Int)) := by omega
          go_wp2
          go_roundw
          case rel => exact ⟨j + 1, _, _, _, by omega, rfl, by go_num, HCut, trivial⟩
          case measure => simp [intOf]; omega
        · have hn0 : n = 0 := by
            have h1 := HC.out.1
            rw [List.drop_of_length_le (by omega)] at h1
            exact h1
          subst hn0
          have hge2 : ¬ (j : Int) < (ns.length : Int) := by omega
          have HBB := Lib.hid (B1.out.trans (Below.to HB.out B1.out.size))
          go_wp2
          go_ret
          exact ⟨rfl, HBB.out⟩
end Go.Proofs.Ytieahneoofdneaa
