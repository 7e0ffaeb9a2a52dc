/-
  The walk of NamesStay, its loops. Helper text; the conditions are those typed.
-/
import Derived.Test.YthjhjifihhhphaaLawC
namespace Go.Proofs.Ythjhjifihhhphaa
set_option linter.unusedVariables false
set_option linter.unusedSimpArgs false
open Go.RowKit Go.Maps

theorem info3 : (Try.prog.info? 3).map (fun i => (i.zero, i.size, i.bytes)) = some (some (.int .i64 0), 1, 8) := by kernel_rfl

theorem str_at {w0 w wr : World} {a : Option Addr} {ss : List ByteArray} (h : ss = [] ∨ ∃ b off, a = some ⟨b, off, none⟩ ∧ b < w.heap.size ∧ ∀ i, i < ss.length → w.cell? ⟨b, off + i, none⟩ = some (.string (ss.getD i ByteArray.empty)))
    (hc : Chg (fun _ => False) w wr) (k : Nat) (hk : k < ss.length) : ∃ b off, a = some ⟨b, off, none⟩ ∧ wr.cell? ⟨b, off + k, none⟩ = some (.string ss[k]) := by
  rcases h with h0 | ⟨b, off, ha, hb, hcell⟩
  · rw [h0] at hk; simp at hk
  · refine ⟨b, off, ha, ?_⟩
    have := hcell k hk
    rw [show ss.getD k ByteArray.empty = ss[k] by simp [List.getD, hk]] at this
    exact cell_chg hc (fun h => h) this

theorem int_at {w wr : World} {a : Option Addr} {zs : List Int} (h : zs = [] ∨ ∃ b off, a = some ⟨b, off, none⟩ ∧ b < w.heap.size ∧ ∀ i, i < zs.length → w.cell? ⟨b, off + i, none⟩ = some (.int .i64 (zs.getD i 0)))
    (hc : Chg (fun _ => False) w wr) (k : Nat) (hk : k < zs.length) : ∃ b off, a = some ⟨b, off, none⟩ ∧ wr.cell? ⟨b, off + k, none⟩ = some (.int .i64 zs[k]) := by
  rcases h with h0 | ⟨b, off, ha, hb, hcell⟩
  · rw [h0] at hk; simp at hk
  · refine ⟨b, off, ha, ?_⟩
    have := hcell k hk
    rw [show zs.getD k 0 = zs[k] by simp [List.getD, hk]] at this
    exact cell_chg hc (fun h => h) this

set_option maxRecDepth 100000 in
set_option maxHeartbeats 2000000 in
theorem namesStay_walk (w : World) (a : Option Addr) (cap : Nat) (ss : List ByteArray) (hs : StrsIn w a ss) (hl : ss.length * 16 ≤ 140737488351232) (a2 : Option Addr) (cap2 : Nat) (zs : List Int) (hz : IntsIn .i64 w a2 zs) (hl2 : zs.length ≤ maxLen) :
    Calls Try.prog 5 #[.slice a ss.length cap, .slice a2 zs.length cap2] w fun e w' => e = .returned (.bool true) ∧ Chg (fun _ => False) w w' := by
  unfold maxLen at hl2
  obtain ⟨hsz, hcells⟩ := hs
  obtain ⟨_, hints⟩ := hz
  have HC := Lib.hid hcells
  have HS := Lib.hid hsz
  have HI := Lib.hid hints
  clear hcells hsz hints
  go_enter Try.func5, Try.ntmps5
  go_wp2_with fail
  refine (awake_any _).mono ?_
  rintro e w1 ⟨rfl, h1⟩
  have H1 := Lib.hid h1
  clear h1
  go_wp2_with fail
  refine (new_own H1.out).mono ?_
  rintro e w2 ⟨bt, rfl, h2⟩
  have H2 := Lib.hid h2
  clear h2
  go_wp2_with fail
  go_loopw [7, 8] (fun u i wr => ∃ (k : Nat) (t : Tab) (G : List Int) (g : Value), k ≤ ss.length ∧ g = u ∧ i = .int .i64 k ∧ G.length = k ∧ StayAt w bt t g G wr ∧ Given t ss G) (fun _ i _ => ss.length - (intOf i).toNat)
  case atStart =>
    obtain ⟨S, s1, s2, s3⟩ := H2.out
    exact ⟨0, _, [], _, Nat.zero_le _, rfl, rfl, rfl, ⟨S, s1, s2, s3, World.ownsRow_nil _ _ _ _, fun g hg => by simp [Value.ownBlock] at hg⟩, ⟨by simp, fun i hi => by simp at hi⟩⟩
  case round =>
    obtain ⟨k, t, G, g, hk, rfl, rfl, hG, ht, hgv⟩ := hrel
    have HT := Lib.hid ht
    have HV := Lib.hid hgv
    have HGL := Lib.hid hG
    clear ht hgv hG
    by_cases hkl : k < ss.length
    · obtain ⟨b, off, rfl, hcell⟩ := str_at (w0 := w) HC.out HT.out.chg k hkl
      have hks : (ss[k]).size ≤ maxLen := HS.out _ (List.getElem_mem hkl)
      go_wp2_with fail
      refine (add_stay HT.out ss[k] hks).mono ?_
      rintro e w3 ⟨rfl, h3⟩
      have H3 := Lib.hid h3
      clear h3
      have HP := Lib.hid (fun h : (t.addRes ss[k]).2 = 0 => Tab.add_pos h)
      have HW := Tab.addRes_wf HT.out.ok ss[k]
      have HK : Hid (Given (t.add ss[k]) ss G) := HV.out.keep (fun s m h => Tab.add_keeps h _)
      generalize hr : t.addRes ss[k] = r at HP HW ⊢
      clear hr HT HV
      obtain ⟨n, er⟩ := r
      simp only at HW
      obtain ⟨wn1, wn2, we1, we2⟩ := HW
      have hGk : G.length ≤ k := Nat.le_of_eq HGL.out
      have HR := Lib.hid H3.out.row
      by_cases he : er = 0
      · subst he
        have HG2 : Hid (Given (t.add ss[k]) ss (G ++ [n])) := HK.out.snoc (by have := HGL.out; omega) (.inr (by
          obtain ⟨c, hc1, hc2⟩ := HP.out rfl
          have e : ss[G.length]'(by have := HGL.out; omega) = ss[k] := by have h := HGL.out; congr
          exact ⟨c, hc1, by rw [e]; exact hc2⟩))
        by_cases hzk : k < zs.length
        · go_wp2_with (at_builtin; refine wpList_append_row _ rfl (.tmp 42) (.tmp 44) 34 rfl 3 (.int .i64 0) 1 8 Try.underlying34 info3 rfl (by decide) g G.length (G.map (Value.int .i64)) rfl (HR.out.alloc _) ⟨w3.heap.size, 0, none⟩ 1 1 [.int .i64 n] rfl rfl (cell_one_new _ _ _) (by intro u hu; simp at hu; subst hu; rfl) (by unfold maxLen; omega) (by omega) ?_; intro a' c' w4 hown4 hgrow4 hat4; have H4 := Lib.hid (StayAt.app H3.out hgrow4 hown4 hat4); obtain ⟨b2, off2, hb2, hcell2⟩ := int_at (w := w) HI.out H4.out.chg k hzk; subst hb2; clear hown4 hgrow4 hat4)
          refine (rel_stay H4.out n zs[k] 0).mono ?_
          rintro e w5 ⟨rfl, h5⟩
          go_wp2
          go_roundw
          case rel => exact ⟨k + 1, _, _, _, by omega, rfl, by go_num, by have := HGL.out; simp; omega, by simpa using h5, HG2.out.keep (fun s m h => by rw [Tab.rel_names]; exact h)⟩
          case measure => simp [intOf]; omega
        · go_wp2_with (at_builtin; refine wpList_append_row _ rfl (.tmp 42) (.tmp 44) 34 rfl 3 (.int .i64 0) 1 8 Try.underlying34 info3 rfl (by decide) g G.length (G.map (Value.int .i64)) rfl (HR.out.alloc _) ⟨w3.heap.size, 0, none⟩ 1 1 [.int .i64 n] rfl rfl (cell_one_new _ _ _) (by intro u hu; simp at hu; subst hu; rfl) (by unfold maxLen; omega) (by omega) ?_; intro a' c' w4 hown4 hgrow4 hat4; have H4 := Lib.hid (StayAt.app H3.out hgrow4 hown4 hat4); clear hown4 hgrow4 hat4)
          go_roundw
          case rel => exact ⟨k + 1, _, _, _, by omega, rfl, by go_num, by have := HGL.out; simp; omega, by simpa using H4.out, HG2.out⟩
          case measure => simp [intOf]; omega
      · have HG2 : Hid (Given (t.add ss[k]) ss (G ++ [-1])) := HK.out.snoc (by have := HGL.out; omega) (.inl rfl)
        have he1 : ((er : Int) != 0) = true := by simpa using he
        have he2 : ((er : Int) == 0) = false := by simpa using he
        clear he HP
        by_cases hzk : k < zs.length
        all_goals
          go_wp2_with (at_builtin; refine wpList_append_row _ rfl (.tmp 42) (.tmp 44) 34 rfl 3 (.int .i64 0) 1 8 Try.underlying34 info3 rfl (by decide) g G.length (G.map (Value.int .i64)) rfl (HR.out.alloc _) ⟨w3.heap.size, 0, none⟩ 1 1 [.int .i64 (-1)] rfl rfl (cell_one_new _ _ _) (by intro u hu; simp at hu; subst hu; rfl) (by unfold maxLen; omega) (by omega) ?_; intro a' c' w4 hown4 hgrow4 hat4; have H4 := Lib.hid (StayAt.app H3.out hgrow4 hown4 hat4); clear hown4 hgrow4 hat4)
          go_roundw
          case rel => exact ⟨k + 1, _, _, _, by omega, rfl, by go_num, by have := HGL.out; simp; omega, by simpa using H4.out, HG2.out⟩
          case measure => simp [intOf]; omega
    · -- the second loop
      have hke : k = ss.length := by omega
      subst hke
      go_wp2_with fail
      go_loopw [11] (fun i wr' => ∃ (j : Nat), j ≤ ss.length ∧ i = .int .i64 j ∧ StayAt w bt t g G wr') (fun i _ => ss.length - (intOf i).toNat)
      case atStart => exact ⟨0, Nat.zero_le _, rfl, HT.out⟩
      case round =>
        obtain ⟨j, hj, rfl, ht⟩ := hrel
        have HT2 := Lib.hid ht
        clear ht
        by_cases hjl : j < ss.length
        · obtain ⟨b, off, rfl, hcell⟩ := str_at (w0 := w) HC.out HT2.out.chg j hjl
          have hjs : (ss[j]).size ≤ maxLen := HS.out _ (List.getElem_mem hjl)
          obtain ⟨gb, gc, rfl⟩ : ∃ gb gc, g = .slice (some ⟨gb, 0, none⟩) G.length gc := by
            rcases HT2.out.row.2 with ⟨_, h0⟩ | ⟨gb, gc, _, h0, _⟩
            · have := HGL.out; omega
            · exact ⟨gb, gc, h0⟩
          have hgl : (j : Int) < (G.length : Int) := by have := HGL.out; omega
          rcases HV.out.2 j (by omega) with hneg | ⟨m, s, hm, hs', hp⟩
          · -- no number was given
            have gcell : _ = _ := HT2.out.row.cellAt j (by omega)
            rw [List.getElem?_map, hneg] at gcell
            simp only [Option.map_some] at gcell
            go_wp2_with fail
            refine (find_stay HT2.out ss[j] hjs).mono ?_
            rintro e w3 ⟨rfl, rfl⟩
            have hfind : (t.find ss[j]).2 = true → (ss[j].size : Int) ≤ 60 := by
              intro h
              have := HT2.out.ok.short ss[j] (by
                simp only [Tab.find] at h
                cases hp : pos t.names ss[j] with
                | none => rw [hp] at h; cases h
                | some i => exact List.mem_of_getElem? (pos_get hp))
              omega
            cases hf : (t.find ss[j]).2 with
            | false =>
              clear hfind
              go_wp2
              go_roundw
              case rel => exact ⟨j + 1, by omega, by go_num, HT2.out⟩
              case measure => simp [intOf]; omega
            | true =>
              have hle := hfind hf
              clear hfind
              go_wp2
              go_roundw
              case rel => exact ⟨j + 1, by omega, by go_num, HT2.out⟩
              case measure => simp [intOf]; omega
          · -- the number m was given
            have es : ss[j] = s := by
              rw [List.getElem?_eq_getElem hjl] at hs'
              exact Option.some.inj hs'
            subst es
            have gcell : _ = _ := HT2.out.row.cellAt j (by omega)
            rw [List.getElem?_map, hm] at gcell
            simp only [Option.map_some] at gcell
            have HPJ := Lib.hid hp
            have HMJ := Lib.hid hm
            clear hp hm hs'
            go_wp2_with fail
            refine (find_stay HT2.out ss[j] hjs).mono ?_
            rintro e w3 ⟨rfl, rfl⟩
            rw [Tab.find_of_pos HPJ.out]
            go_wp2_with fail
            refine (name_stay HT2.out m).mono ?_
            rintro e w3 ⟨rfl, rfl⟩
            rw [Tab.name_of_pos HPJ.out]
            go_wp2_with fail
            go_loopw [16] (fun i wr'' => ∃ (q : Nat), q ≤ j ∧ i = .int .i64 q ∧ StayAt w bt t (.slice (some ⟨gb, 0, none⟩) G.length gc) G wr'') (fun i _ => j - (intOf i).toNat)
            case atStart => exact ⟨0, Nat.zero_le _, rfl, HT2.out⟩
            case round =>
              obtain ⟨q, hq, rfl, ht⟩ := hrel
              have HT3 := Lib.hid ht
              clear ht gcell hcell
              by_cases hql : q < j
              · obtain ⟨b', off', hb', qcell⟩ := str_at (w0 := w) HC.out HT3.out.chg q (by omega)
                obtain ⟨b'', off'', hb'', jcell⟩ := str_at (w0 := w) HC.out HT3.out.chg j hjl
                simp only [Option.some.injEq, Addr.mk.injEq, and_true] at hb' hb''
                obtain ⟨rfl, rfl⟩ := hb'
                obtain ⟨rfl, rfl⟩ := hb''
                have hgq : (q : Int) < (G.length : Int) := by omega
                have hqs : (q : Int) < (ss.length : Int) := by omega
                have hjs' : (j : Int) < (ss.length : Int) := by omega
                have gj : _ = _ := HT3.out.row.cellAt j (by omega)
                rw [List.getElem?_map, HMJ.out] at gj
                simp only [Option.map_some] at gj
                have gq : _ = _ := HT3.out.row.cellAt q (by omega)
                rw [List.getElem?_map] at gq
                rcases HV.out.2 q (by omega) with hneg | ⟨m', s', hm', hs'', hp'⟩
                · rw [hneg] at gq
                  simp only [Option.map_some] at gq
                  clear hneg
                  go_wp2
                  go_quiet (fail)
                  go_wp2
                  go_roundw
                  case rel => exact ⟨q + 1, by omega, by go_num, HT3.out.drewN _⟩
                  case measure => simp [intOf]; omega
                · rw [hm'] at gq
                  simp only [Option.map_some] at gq
                  have es : ss[q] = s' := by
                    rw [List.getElem?_eq_getElem (by omega)] at hs''
                    exact Option.some.inj hs''
                  subst es
                  have hge : decide ((0 : Int) ≤ (m' : Int)) = true := by simp
                  obtain ⟨B, hB1, hB2⟩ : ∃ B : Bool, ((m' : Int) == (m : Int)) = B ∧ (ss[q].toList == ss[j].toList) = B := by
                    refine ⟨decide (ss[q] = ss[j]), ?_, ?_⟩
                    · rw [Bool.eq_iff_iff]
                      simp only [beq_iff_eq, decide_eq_true_eq]
                      constructor
                      · intro h
                        have h : m' = m := by omega
                        subst h
                        have g1 := pos_get hp'
                        have g2 := pos_get HPJ.out
                        rw [g1] at g2
                        exact Option.some.inj g2
                      · intro h
                        rw [h, HPJ.out] at hp'
                        have := Option.some.inj hp'
                        omega
                    · rw [Bool.eq_iff_iff]
                      simp only [beq_iff_eq, decide_eq_true_eq]
                      constructor
                      · intro h
                        rw [ByteArray.toList_eq, ByteArray.toList_eq] at h
                        exact ByteArray.ext (Array.toList_inj.mp h)
                      · intro h
                        rw [h]
                  clear hm' hs'' hp'
                  go_wp2
                  go_quiet (fail)
                  go_wp2
                  go_roundw
                  case rel => exact ⟨q + 1, by omega, by go_num, HT3.out.drewN _⟩
                  case measure => simp [intOf]; omega
              · go_wp2
                go_roundw
                case rel => exact ⟨j + 1, by omega, by go_num, HT3.out⟩
                case measure => simp [intOf]; omega
        · go_wp2
          go_ret
          exact ⟨rfl, HT2.out.chg⟩
end Go.Proofs.Ythjhjifihhhphaa
