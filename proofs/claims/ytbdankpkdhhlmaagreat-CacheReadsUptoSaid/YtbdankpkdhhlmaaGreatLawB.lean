/-
  The walk of the law CacheReads. Helper text; the conditions are those typed.
-/
import Derived.Test.YtbdankpkdhhlmaaGreatLawsA
namespace Go.Proofs.YtbdankpkdhhlmaaGreat
set_option linter.unusedVariables false
set_option linter.unusedSimpArgs false
open Go.RowKit Go.Maps

theorem convN {w : World} {a : Option Addr} {l : List UInt8} (h : BytesAt w a l) (cap : Nat) {n : Nat} (hn : l.length = n) : (convert 23 9 (.slice a n cap)).run Tryz.prog w = .ok (.string ⟨l.toArray⟩) w := by
  subst hn
  exact convB h cap
set_option maxHeartbeats 2000000 in
set_option maxRecDepth 100000 in
theorem cacheReads_walk (w : World) (a : Option Addr) (n c : Nat) (l : List UInt8) (hr : ReadsB w (.slice a n c) l) (hn : l.length = n) (hl : n ≤ 1048576) :
    Calls Tryz.prog 4 #[.slice a n c] w fun e w' => e = .returned (.bool true) ∧ Below w.heap.size w w' := by
  have HR := Lib.hid hr
  have HN := Lib.hid hn
  clear hr hn
  go_enter Tryz.func4, Tryz.ntmps4
  go_wp2_with fail
  refine (awake_c w).mono ?_
  rintro e w1 ⟨rfl, hb1⟩
  replace hb1 := Lib.hid hb1
  have HO : Hid (OwnB w1 (.slice (some ⟨w1.heap.size, 0, none⟩) 0 0) [] (w1.alloc (.cells #[] 5))) := Lib.hid (OwnB.made w1)
  have HR1 : Hid (ReadsB (w1.alloc (.cells #[] 5)) (.slice a n c) l) := Lib.hid ((HR.out.below hb1.out).below (below1 w1 _))
  have hlim : ([] : List UInt8).length + l.length ≤ 140737488355328 := by
    have := HN.out
    simp
    omega
  go_wp2_with (at_builtin; refine wpList_appB rfl (.tmp 10) (.tmp 11) rfl (.slice (some ⟨w1.heap.size, 0, none⟩) 0 0) (.slice a n c) [] l rfl rfl HO.out HR1.out hlim ?_; intro v4 w4 hown4 hgrow4)
  have hb4 := hown4.2
  obtain ⟨a4, c4, rfl, hby4, hc4, _⟩ := hown4.slice2
  simp only [List.nil_append] at hby4 hc4 ⊢
  have HB4 : Hid (Below w.heap.size w w4) := Lib.hid (below_tr hb1.out hb4)
  have HLT : Hid (∀ b off s, a4 = some ⟨b, off, s⟩ → b < w4.heap.size) := Lib.hid <| by
    intro b off s e
    rcases hown4.1.2 with ⟨e1, _⟩ | ⟨g, cap, cur, e1, _⟩
    · injection e1 with e1 _ _
      rw [e] at e1
      cases e1
    · injection e1 with e1 _ _
      rw [e] at e1
      injection e1 with e1
      injection e1 with e1 _ _
      rw [e1]
      exact (hown4.1.lt g (by rw [e] ; simp [Value.ownBlock, e1])).2
  have hC := Lib.hid (read_c w4 a4 c4 l hby4 HLT.out hc4 (by have := HN.out; omega) (fun kd rl rs ks ats => can_read (by have := HN.out; omega) kd rl rs ks ats) HN.out)
  have HBY := Lib.hid hby4
  have HR4 : Hid (ReadsB w4 (.slice a n c) l) := Lib.hid (HR.out.below HB4.out)
  rw [HN.out]
  clear hown4 hgrow4 hby4 hc4 hb4 HO HR1 hlim
  go_wp2_with fail
  refine hC.out.mono ?_
  rintro e w5 ⟨hb5, h5⟩
  have HB5 : Hid (Below w.heap.size w w5) := Lib.hid (below_tr HB4.out hb5)
  have HR5 : Hid (ReadsB w5 (.slice a n c) l) := Lib.hid (HR.out.below HB5.out)
  have HBY5 : Hid (BytesAt w5 a4 l) := Lib.hid (HBY.out.keep fun b off s e => hb5.block b (HLT.out b off s e))
  obtain ⟨a', c', ea, hya⟩ := HR5.out.at
  have hya : BytesAt w5 a l := by
    injection ea with ea _ _
    rw [ea]
    exact hya
  have k1 := convN HBY5.out c4 HN.out
  have k2 := convN hya c HN.out
  have HYA := Lib.hid hya
  clear hb5 hC ea hya
  rcases h5 with ⟨rfl, _⟩ | ⟨kd, rl, rs, ks, ats, role, P, M, vr, va, lv, rfl, hall, hok, hkd, hen, hp⟩
  · go_wp2_with fail
    go_ret
    exact ⟨rfl, HB5.out⟩
  · have hcw : CanW kd rs ks := can_read (by have := HN.out; omega) kd rl rs ks ats hall hok
    have hW := Lib.hid (write_c hp hcw)
    have HEN : Hid (encB (kd : Int).toNat (tokPool rs ks) = l) := Lib.hid hen
    clear hall hok hkd hen hp hcw
    go_wp2_with fail
    refine hW.out.mono ?_
    rintro e w7 ⟨v7, rfl, hv7⟩
    rw [HEN.out] at hv7
    obtain ⟨a7, c7, rfl, hby7, _, _⟩ := hv7.slice2
    have HB7 : Hid (Below w.heap.size w w7) := Lib.hid (below_tr HB5.out hv7.2)
    have k3 := convN hby7 c7 HN.out
    obtain ⟨a8, c8, ea8, hya8⟩ := (HR.out.below HB7.out).at
    have hya7 : BytesAt w7 a l := by
      injection ea8 with ea8 _ _
      rw [ea8]
      exact hya8
    have k4 := convN hya7 c HN.out
    rw [HN.out]
    clear hv7 hby7 hya7 hya8 ea8 hW k1 k2
    go_wp2_with fail
    go_ret
    exact ⟨rfl, HB7.out⟩
end Go.Proofs.YtbdankpkdhhlmaaGreat
