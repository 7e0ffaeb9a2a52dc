/-
  The document's Dir: the walk. Helper text; the conditions are those typed.
  The document's Path: the walk. Helper text; the conditions are those typed.
-/
import Derived.Test.YtnplmembdfklcaaGreatDoorRefI
import Derived.Test.YtnplmembdfklcaaGreatDoorRefJ
namespace Go.Proofs.YtnplmembdfklcaaGreatDoor
set_option linter.unusedVariables false
set_option linter.unusedSimpArgs false
open Go.RowKit Go.Maps

/-- How many of the paths have no number. -/
def freshN (ds : List ByteArray) (l : List (List UInt8)) : Nat := l.countP fun x => (keyIdx ds (mkB x)).isNone
theorem freshN_step (ds : List ByteArray) (l : List (List UInt8)) {i : Nat} (hi : i < l.length) : freshN ds (l.take (i + 1)) = freshN ds (l.take i) + if keyIdx ds (mkB l[i]) = none then 1 else 0 := by
  unfold freshN
  rw [List.take_succ_eq_append_getElem hi, List.countP_append, List.countP_singleton]
  cases keyIdx ds (mkB l[i]) <;> simp
theorem freshN_le (ds : List ByteArray) (l : List (List UInt8)) : freshN ds l ≤ l.length := List.countP_le_length
/-- The paths that have no number get one. -/
def rrun (ds : List ByteArray) (l : List (List UInt8)) : List ByteArray := l.foldl (fun d x => if keyIdx d (mkB x) = none then d ++ [mkB x] else d) ds
theorem rrun_step (ds : List ByteArray) (l : List (List UInt8)) {i : Nat} (hi : i < l.length) : rrun ds (l.take (i + 1)) = if keyIdx (rrun ds (l.take i)) (mkB l[i]) = none then rrun ds (l.take i) ++ [mkB l[i]] else rrun ds (l.take i) := by
  unfold rrun
  rw [List.take_succ_eq_append_getElem hi, List.foldl_append]
  rfl
theorem rrun_len (ds : List ByteArray) : ∀ (l : List (List UInt8)), (rrun ds l).length ≤ ds.length + l.length := by
  intro l
  induction l generalizing ds with
  | nil => simp [rrun]
  | cons x l ih =>
    have h := ih (if keyIdx ds (mkB x) = none then ds ++ [mkB x] else ds)
    show (rrun (if keyIdx ds (mkB x) = none then ds ++ [mkB x] else ds) l).length ≤ _
    rw [List.length_cons]
    refine Nat.le_trans h ?_
    split
    · rw [List.length_append, List.length_singleton]; omega
    · omega
def rdirErr (ds : List ByteArray) (p : ByteArray) : Int := match upsL p with
  | none => 85
  | some l => if 2000 < ds.length + freshN ds l then 83 else 0
def rdirSt (ds : List ByteArray) (p : ByteArray) : List ByteArray := if rdirErr ds p = 0 then rrun ds ((upsL p).getD []) else ds
def RDirPost (role : Nat → Role) (w : World) (B M : Nat) (vL vK vN : Value) (rt : RefT) (p : ByteArray) (e : Ending) (w' : World) : Prop :=
  e = .returned (.tuple #[.int .i64 (if rdirErr rt.dirs p = 0 then idxOr (keyIdx (rdirSt rt.dirs p) p) else 0), .int .i64 (rdirErr rt.dirs p)]) ∧ ∃ role' vD', Moved role w role' w' ∧ RefIn w' B role' M vL vK vN vD' { rt with dirs := rdirSt rt.dirs p }

section
variable {w w' : World} {B : Nat} {role role' : Nat → Role} {M : Nat} {vL vK vN vD : Value} {rt : RefT}
theorem RefIn.dir_step (h : RefIn w B role M vL vK vN vD rt) (hB : B ≤ w.heap.size) {key : ByteArray} {w1 : World} {g cap n : Nat} (hn : n = rt.dirs.length + 1) (hown : w1.ownsRow B 9 1 (.slice (some ⟨g, 0, none⟩) n cap) n (rt.dirs.map .string ++ [.string key]))
    (hgrow : w.grownBy w1 vD.ownBlock) (hat : vD.ownBlock = some g ∨ w.heap.size ≤ g) (hlt : g < w1.heap.size) :
    ∃ role', Step (fun r => r = .dirs ∨ r = .box) role w role' (w1.setCell ⟨M, 3, none⟩ (.slice (some ⟨g, 0, none⟩) n cap)) ∧ RefIn (w1.setCell ⟨M, 3, none⟩ (.slice (some ⟨g, 0, none⟩) n cap)) B role' M vL vK vN (.slice (some ⟨g, 0, none⟩) n cap) { rt with dirs := rt.dirs ++ [key] } := by
  subst hn
  obtain ⟨hs, hbx, hM, hg⟩ := h.row_chg (R := .dirs) (by simp) (by simp) h.rD hgrow hat hlt 3 (.slice (some ⟨g, 0, none⟩) (rt.dirs.length + 1) cap)
  refine ⟨_, hs, hbx, ownsRow_to h.l fun b hb => (h.blk hs (h.rL b hb) (by simp) (by simp)).1, ownsRow_to h.keys fun b hb => (h.blk hs (h.rK b hb) (by simp) (by simp)).1, ownsRow_to h.kinds fun b hb => (h.blk hs (h.rN b hb) (by simp) (by simp)).1, ?_, fun p hp => h.cont_to hs (by simp) (h.cont p hp), hM, fun b hb => (h.blk hs (h.rL b hb) (by simp) (by simp)).2, fun b hb => (h.blk hs (h.rK b hb) (by simp) (by simp)).2, fun b hb => (h.blk hs (h.rN b hb) (by simp) (by simp)).2, fun b hb => ?_, hs.lo (h := h.lo) hB, hs.inn⟩
  · show World.ownsRow _ B 9 1 _ (rt.dirs ++ [key]).length ((rt.dirs ++ [key]).map .string)
    rw [List.length_append, List.length_singleton, List.map_append]
    exact ownsRow_to hown fun b hb => by cases hb; exact hg
  · cases hb
    exact if_pos rfl

set_option maxHeartbeats 4000000 in
set_option maxRecDepth 100000 in
theorem rdir_c (h : RefIn w B role M vL vK vN vD rt) (hB : B ≤ w.heap.size) (hd : rt.dirs.length ≤ 2000) (p : ByteArray) : Calls Tryz.prog 27 #[.pointer (some ⟨M, 0, none⟩), .string p] w (RDirPost role w B M vL vK vN rt p) := by
  have HU := Lib.hid (refups_c p w)
  have HH := Lib.hid h
  have HB := Lib.hid hB
  have HD := Lib.hid hd
  unfold UpsP at HU
  have HNO : Hid (∀ x, rdirErr rt.dirs p = x → x ≠ 0 → ∀ w', Below w.heap.size w w' → RDirPost role w B M vL vK vN rt p (.returned (.tuple #[.int .i64 0, .int .i64 x])) w') := fun x hx h0 w' hb => by
    unfold RDirPost rdirSt
    rw [hx, if_neg h0, if_neg h0]
    exact ⟨rfl, role, vD, Moved.of_below HH.out.hi hb, HH.out.below HB.out hb⟩
  cases hu : upsL p with
  | none =>
    have HN1 := Lib.hid (HNO.out 85 (by unfold rdirErr; rw [hu]) (by decide))
    rw [hu] at HU
    generalize RDirPost role w B M vL vK vN rt p = Q at HN1 ⊢
    clear h hu HNO hd
    go_enter Tryz.func27, Tryz.ntmps27
    go_wp2_with (go_at_call 52; refine HU.out.mono ?_; rintro e w1 ⟨rfl, hb1⟩)
    exact HN1.out _ hb1
  | some l =>
    rw [hu] at HU
    obtain ⟨hl1, hl2⟩ := upsL_size hu
    have HE1 : Hid (2000 < rt.dirs.length + freshN rt.dirs l → rdirErr rt.dirs p = 83) := fun h => by unfold rdirErr; rw [hu]; exact if_pos h
    have HYES : Hid (¬ 2000 < rt.dirs.length + freshN rt.dirs l → ∀ role' vD' w', Moved role w role' w' → RefIn w' B role' M vL vK vN vD' { rt with dirs := rrun rt.dirs l } → RDirPost role w B M vL vK vN rt p (.returned (.tuple #[.int .i64 (idxOr (keyIdx (rrun rt.dirs l) p)), .int .i64 0])) w') := fun hno role' vD' w' hm hr => by
      have e : rdirErr rt.dirs p = 0 := by unfold rdirErr; rw [hu]; exact if_neg hno
      have e2 : rdirSt rt.dirs p = rrun rt.dirs l := by unfold rdirSt; rw [if_pos e, hu]; rfl
      unfold RDirPost
      rw [e, if_pos rfl, e2]
      exact ⟨rfl, role', vD', hm, hr⟩
    generalize RDirPost role w B M vL vK vN rt p = Q at HNO HYES ⊢
    obtain ⟨n, hn⟩ : ∃ n, l.length = n := ⟨_, rfl⟩
    rw [hn] at hl2
    have HLN := Lib.hid hn
    simp only [hn] at HU
    clear h hu hd hn
    go_enter Tryz.func27, Tryz.ntmps27
    go_upto_region 4 with (go_at_call 52; refine HU.out.mono ?_; rintro e w1 ⟨⟨v, rfl, hv⟩, hb1⟩)
    obtain ⟨va, vc, rfl⟩ := ownsRow_slice hv
    have HV := Lib.hid hv
    have HB1 := Lib.hid hb1
    have HR1 := Lib.hid (HH.out.below HB.out hb1)
    have HPL := Lib.hid (fun k => place_c HR1.out k)
    clear hv hb1
    go_wp2_with fail
    go_loopw [8, 9] (fun v8 v9 wr => ∃ i f : Nat, v8 = .int .i64 f ∧ v9 = .int .i64 i ∧ i ≤ n ∧ w1 = wr ∧ f ≤ i ∧ Hid (f = freshN rt.dirs (l.take i))) (fun _ v9 _ => n - (intOf v9).toNat)
    case atStart => exact ⟨0, 0, rfl, rfl, Nat.zero_le _, by trivial, Nat.le_refl _, rfl⟩
    case round =>
      obtain ⟨i, f, rfl, rfl, hi, rfl, hfi, HF⟩ := hrel
      by_cases hlt : i < n
      · have hi1 : (i : Int) < (n : Int) := by omega
        have hil : i < l.length := by have := HLN.out; omega
        obtain ⟨g, cap, hg, _⟩ := (ownsRow_form HV.out).resolve_left (fun h => by have := h.2; omega)
        injection hg with hg1 _ hg3
        subst hg1 hg3
        have c0 : w1.cell? ⟨g, i, none⟩ = some (.string (mkB l[i])) := ownsRow_cell HV.out (by unfold strsL; simp [hil])
        have HS := Lib.hid (freshN_step rt.dirs l hil)
        have HP := Lib.hid (HPL.out (mkB l[i]))
        cases hk : keyIdx rt.dirs (mkB l[i]) with
        | none =>
          rw [hk] at HP
          simp only [idxOr] at HP
          have HF2 : Hid (f + 1 = freshN rt.dirs (l.take (i + 1))) := by rw [Hid, HS.out, if_pos hk, ← HF.out]
          have hneg : ((-1 : Int) < 0) := by decide
          clear hk HS HF
          go_wp2_with (go_at_call 53; refine HP.out.mono ?_; rintro e w2 ⟨rfl, h2⟩; obtain rfl : w1 = w2 := h2.symm)
          go_roundw
          case rel => exact ⟨i + 1, f + 1, by go_num, by go_num, by omega, by trivial, by omega, HF2⟩
          case measure => simp [intOf]; omega
        | some k =>
          rw [hk] at HP
          simp only [idxOr] at HP
          have HF2 : Hid (f = freshN rt.dirs (l.take (i + 1))) := by rw [Hid, HS.out, if_neg (by rw [hk]; simp), ← HF.out]; rfl
          have hneg : ¬ ((k : Int) < 0) := by omega
          clear hk HS HF
          go_wp2_with (go_at_call 53; refine HP.out.mono ?_; rintro e w2 ⟨rfl, h2⟩; obtain rfl : w1 = w2 := h2.symm)
          go_roundw
          case rel => exact ⟨i + 1, f, rfl, by go_num, by omega, by trivial, by omega, HF2⟩
          case measure => simp [intOf]; omega
      · have hi1 : ¬ (i : Int) < (n : Int) := by omega
        obtain rfl : n = i := by omega
        have HF2 : Hid (f = freshN rt.dirs l) := by rw [Hid, HF.out, List.take_of_length_le (by have := HLN.out; omega)]
        have c3 := HR1.out.box.cell (j := 3) rfl
        obtain ⟨da, dc, hvD⟩ := ownsRow_slice HR1.out.dirs
        subst hvD
        obtain ⟨N, hN⟩ : ∃ N, rt.dirs.length = N := ⟨_, rfl⟩
        have hN2 : N ≤ 2000 := by rw [← hN]; exact HD.out
        rw [hN] at c3 HE1 HYES
        have HNN := Lib.hid hN
        clear hN HF
        by_cases hm : 2000 < N + f
        · have hm1 : 2000 < (N : Int) + (f : Int) := by omega
          have HN1 := Lib.hid (HNO.out 83 (HE1.out (by rw [← HF2.out]; exact hm)) (by decide))
          clear HYES HNO HE1
          go_wp2_with fail
          exact HN1.out _ HB1.out
        · have hm1 : ¬ 2000 < (N : Int) + (f : Int) := by omega
          have HY := Lib.hid (HYES.out (by rw [← HF2.out]; exact hm))
          clear HYES HNO HE1
          go_wp2_with fail
          have HGF : Hid (∀ g, w.heap.size ≤ g → role g = .free) := fun g hg => HH.out.hi.free hg
          have HLT : Hid (∀ i < n, ∃ g, va = some ⟨g, 0, none⟩ ∧ w.heap.size ≤ g ∧ g < w1.heap.size ∧ ∀ W : World, W.heap[g]? = w1.heap[g]? → ∀ (h : i < l.length), W.cell? ⟨g, i, none⟩ = some (.string (mkB l[i]))) := by
            intro i hi
            obtain ⟨g, cap, hg, _⟩ := (ownsRow_form HV.out).resolve_left (fun h => by have := h.2; omega)
            injection hg with hg1 _ hg3
            subst hg1
            have hb := HV.out.lt g rfl
            refine ⟨g, rfl, hb.1, hb.2, fun W hW h => ?_⟩
            exact cell_blk hW (ownsRow_cell HV.out (by unfold strsL; simp [h]))
          have HBR1 : Hid (B ≤ w1.heap.size) := Nat.le_trans HB.out HB1.out.size
          have HST : Hid (∃ role' vD', Moved role w1 role' w1 ∧ RefIn w1 B role' M vL vK vN vD' { rt with dirs := rrun rt.dirs (l.take 0) }) := ⟨role, _, Moved.of_below HR1.out.hi (Below.refl _ _), HR1.out⟩
          clear c3 HF2 hm hm1 HPL
          go_loopw [10] (fun v10 wr => ∃ i : Nat, v10 = .int .i64 i ∧ i ≤ n ∧ Hid (∃ role' vD', Moved role w1 role' wr ∧ RefIn wr B role' M vL vK vN vD' { rt with dirs := rrun rt.dirs (l.take i) })) (fun v10 _ => n - (intOf v10).toNat)
          case atStart => exact ⟨0, rfl, Nat.zero_le _, HST⟩
          case round =>
            obtain ⟨i, rfl, hi, HI⟩ := hrel
            obtain ⟨role2, vD2, hm2, hr2⟩ := HI.out
            have HM2 := Lib.hid hm2
            have HR2 := Lib.hid hr2
            clear hm2 hr2 HI
            by_cases hlt : i < n
            · have hi1 : (i : Int) < (n : Int) := by omega
              have hil : i < l.length := by have := HLN.out; omega
              obtain ⟨g, rfl, hg1, hg2, hc⟩ := HLT.out i hlt
              have HG : Hid (wr.heap[g]? = w1.heap[g]? ∧ role2 g = .free ∧ g < wr.heap.size) := by
                obtain ⟨h1, h2⟩ := HM2.out.block hg2 (HGF.out g hg1)
                exact ⟨h1, h2, Nat.lt_of_lt_of_le hg2 HM2.out.size⟩
              have HC : Hid (∀ W : World, W.heap[g]? = wr.heap[g]? → W.cell? ⟨g, i, none⟩ = some (.string (mkB l[i]))) := fun W hW => hc W (hW.trans HG.out.1) hil
              have c0 := HC.out wr rfl
              have HS := Lib.hid (rrun_step rt.dirs l hil)
              have HP := Lib.hid (place_c HR2.out (mkB l[i]))
              clear hc
              cases hk : keyIdx (rrun rt.dirs (l.take i)) (mkB l[i]) with
              | some k =>
                have HP2 : Hid (Calls Tryz.prog 53 #[.pointer (some ⟨M, 0, none⟩), .string (mkB l[i])] wr fun e w' => e = .returned (.int .i64 (k : Int)) ∧ w' = wr) := by
                  have := HP.out
                  simp only [hk, idxOr] at this
                  exact this
                have HN : Hid (∃ role' vD', Moved role w1 role' wr ∧ RefIn wr B role' M vL vK vN vD' { rt with dirs := rrun rt.dirs (l.take (i + 1)) }) := by
                  refine ⟨role2, vD2, HM2.out, ?_⟩
                  rw [HS.out, if_neg (by rw [hk]; simp)]
                  exact HR2.out
                have hneg : ¬ ((k : Int) < 0) := by omega
                clear hk HS HP
                go_wp2_with (go_at_call 53; refine HP2.out.mono ?_; rintro e w2 ⟨rfl, h2⟩; obtain rfl : wr = w2 := h2.symm)
                go_roundw
                case rel => exact ⟨i + 1, by go_num, by omega, HN⟩
                case measure => simp [intOf]; omega
              | none =>
                have HP2 : Hid (Calls Tryz.prog 53 #[.pointer (some ⟨M, 0, none⟩), .string (mkB l[i])] wr fun e w' => e = .returned (.int .i64 (-1)) ∧ w' = wr) := by
                  have := HP.out
                  simp only [hk, idxOr] at this
                  exact this
                have hneg : ((-1 : Int) < 0) := by decide
                replace hk := Lib.hid hk
                clear HP c0
                have HBX := Lib.hid HR2.out.box
                obtain ⟨N2, hN2⟩ : ∃ N2, (rrun rt.dirs (l.take i)).length = N2 := ⟨_, rfl⟩
                have HNN2 := Lib.hid hN2
                obtain ⟨da2, dc2, rfl⟩ : ∃ da2 dc2, vD2 = .slice da2 N2 dc2 := by
                  obtain ⟨a, c, e⟩ := ownsRow_slice HR2.out.dirs
                  exact ⟨a, c, by rw [e]; show Value.slice a (rrun rt.dirs (l.take i)).length c = _; rw [hN2]⟩
                have HROW : Hid (wr.ownsRow B 9 1 (.slice da2 N2 dc2) N2 ((rrun rt.dirs (l.take i)).map .string)) := by
                  have := HR2.out.dirs
                  rw [hN2] at this
                  exact this
                have hN3 : N2 ≤ 2300 := by
                  have h1 := rrun_len rt.dirs (l.take i)
                  rw [List.length_take] at h1
                  have := HNN.out
                  have := HD.out
                  have := HLN.out
                  omega
                clear hN2
                obtain ⟨key, hkey⟩ : ∃ key, mkB l[i] = key := ⟨_, rfl⟩
                rw [hkey] at HC HP2
                have HKEY := Lib.hid hkey
                clear hkey
                have c0 := HC.out wr rfl
                go_upto_region 16 with (go_at_call 53; refine HP2.out.mono ?_; rintro e w2 ⟨rfl, h2⟩; obtain rfl : wr = w2 := h2.symm)
                clear c0
                have HQ : Hid (∀ W : World, W.heap[M]? = wr.heap[M]? → W.cell? ⟨M, 3, none⟩ = some (.slice da2 N2 dc2)) := fun W hW => (HBX.out.to hW).cell (j := 3) rfl
                refine Two.wp_region_ord2 (fun W => W.heap[M]? = wr.heap[M]? ∧ W.heap[g]? = wr.heap[g]?) (fun _ => True) 11 13 [(.qb, 0), (.qb, 1), (.qb, 2), (.qb, 3), (.qa, 4), (.qb, 5), (.qb, 6), (.qb, 7), (.qa, 8), (.l0, 9), (.l0, 10), (.l1, 11), (.qb, 12), (.l2, 13)] (by kernel_rfl) (by kernel_rfl) (fun _ _ d _ _ h => by cases d <;> exact h) ⟨rfl, rfl⟩ trivial ?_
                intro wd hwd hS hS2
                simp only [Two.ordOps2, List.map_cons, List.map_nil, Array.getD_eq_getD_getElem?, List.getElem?_toArray, List.getElem?_cons_succ, List.getElem?_cons_zero, Option.getD_some]
                iterate 4 (refine Two.step_qb rfl _ (fun w' hS' K hK => (by clear hS'; go_simp; exact hK)) (fun K hK => ?_); go_simp; refine hK _ ?_; clear hK K)
                refine Two.step_qa rfl _ (fun w' hS' K hK => (by have q1 := HQ.out w' hS'.1; clear hS'; go_simp; exact hK)) (fun K hK => ?_); go_simp; refine hK _ ?_; clear hK K
                iterate 3 (refine Two.step_qb rfl _ (fun w' hS' K hK => (by clear hS'; go_simp; exact hK)) (fun K hK => ?_); go_simp; refine hK _ ?_; clear hK K)
                refine Two.step_qa rfl _ (fun w' hS' K hK => (by have q1 := HC.out w' hS'.2; clear hS'; go_simp; exact hK)) (fun K hK => ?_); go_simp; refine hK _ ?_; clear hK K
                have HBd : Hid (Below wr.heap.size wr wd) := by rw [hwd.out]; exact (Below.refl _ _).drew
                have HML : Hid (M < wr.heap.size) := HBX.out.lt
                have hZ : wd.heap.size = wr.heap.size := by rw [hwd.out]; rfl
                have HZ := Lib.hid hZ
                clear hZ
                refine Two.step_l0 rfl (fun K hK => ?_)
                go_simp
                refine hK _ _ ⟨⟨⟨((below1 wd _).block _ (by rw [HZ.out]; exact HML.out)).trans hS.1, ((below1 wd _).block _ (by rw [HZ.out]; exact HG.out.2.2)).trans hS.2⟩, trivial⟩, ?_⟩
                clear hK K
                obtain ⟨i9, hi9, hz0, hz1, hz2⟩ := info_parts info9
                have HR3 := Lib.hid (HR2.out.below (Nat.le_trans HBR1.out HM2.out.size) (below_tr HBd.out (below1 wd (.cells #[.string key] 9))))
                have HROW3 : Hid ((wd.alloc (.cells #[.string key] 9)).ownsRow B 9 1 (.slice da2 N2 dc2) N2 ((rrun rt.dirs (l.take i)).map .string)) := ownsRow_below (ownsRow_below HROW.out HBd.out) (below1 _ _)
                have HBB : Hid (B ≤ (wd.alloc (.cells #[.string key] 9)).heap.size) := by
                  have h1 := HBR1.out
                  have h2 := HM2.out.size
                  have h3 := HBd.out.size
                  have h4 := (below1 wd (.cells #[.string key] 9)).size
                  exact Nat.le_trans h1 (Nat.le_trans h2 (Nat.le_trans h3 h4))
                refine Two.step_l0 rfl (fun K hK => ?_)
                refine wp_append_lies _ (.tmp 58) (.tmp 63) 29 rfl B 9 i9 (.string ⟨#[]⟩) 1 16 Tryz.underlying29 hi9 hz0 hz1 hz2 rfl (by decide) (.slice da2 N2 dc2) N2 ((rrun rt.dirs (l.take i)).map .string) rfl HROW3.out ⟨wd.heap.size, 0, none⟩ 1 1 [.string key] rfl rfl (World.news_of_block (cs := #[.string key]) (t := 9) (fr := (0, 0)) (heap_alloc_new wd _)) (by simp [Value.oneCell']) (by omega) (by unfold maxLen; omega) (by omega) HBB.out _ rfl ?_
                intro g3 cap3 w3 hown3 hgr3 hat3 hlt3
                have HA3 : Hid (w3.ownsRow B 9 1 (.slice (some ⟨g3, 0, none⟩) (N2 + 1) cap3) (N2 + 1) ((rrun rt.dirs (l.take i)).map .string ++ [.string key]) ∧ (wd.alloc (.cells #[.string key] 9)).grownBy w3 (Value.slice da2 N2 dc2).ownBlock ∧ ((Value.slice da2 N2 dc2).ownBlock = some g3 ∨ (wd.alloc (.cells #[.string key] 9)).heap.size ≤ g3) ∧ g3 < w3.heap.size) := ⟨hown3, hgr3, hat3.imp (fun h => h) (fun h => Nat.le_of_eq h.symm), hlt3⟩
                have HKP : Hid (∀ b, b < wr.heap.size → some b ≠ (Value.slice da2 N2 dc2).ownBlock → w3.heap[b]? = wr.heap[b]?) := fun b hb hne => by
                  refine (HA3.out.2.1.block b ?_ hne).trans (((below1 wd _).block b (by rw [HZ.out]; exact hb)).trans (HBd.out.block b hb))
                  exact Nat.lt_of_lt_of_le (by rw [HZ.out]; exact hb) (below1 wd _).size
                have HKM : Hid (w3.heap[M]? = wr.heap[M]?) := HKP.out M HML.out (fun e => by have h1 := HR2.out.rD M e.symm; rw [HR2.out.rM] at h1; cases h1)
                have HKG : Hid (w3.heap[g]? = wr.heap[g]?) := HKP.out g HG.out.2.2 (fun e => by have h1 := HR2.out.rD g e.symm; rw [HG.out.2.1] at h1; cases h1)
                clear hown3 hgr3 hat3 hlt3
                go_simp
                refine hK _ _ ⟨⟨⟨HKM.out, HKG.out⟩, trivial⟩, ?_⟩
                clear hK K
                refine Two.step_l1 rfl (fun K hK => ?_)
                go_simp
                refine hK _ _ ⟨trivial, ?_⟩
                clear hK K
                refine Two.step_qb rfl _ (fun w' hS' K hK => (by clear hS'; go_simp; exact hK)) (fun K hK => ?_); go_simp; refine hK _ ?_; clear hK K
                have hbx3 := HBX.out.to HKM.out
                have p0 := hbx3.cell (j := 3) rfl
                have p1 := hbx3.frozen 3
                refine Two.step_l2 rfl (fun K hK => ?_)
                go_simp
                refine hK _ _ ?_
                clear hK K p0 p1 hbx3
                refine Two.step_nil ?_
                have HFIN : Hid (∃ role' vD', Moved role w1 role' (w3.setCell ⟨M, 3, none⟩ (.slice (some ⟨g3, 0, none⟩) (N2 + 1) cap3)) ∧ RefIn (w3.setCell ⟨M, 3, none⟩ (.slice (some ⟨g3, 0, none⟩) (N2 + 1) cap3)) B role' M vL vK vN vD' { rt with dirs := rrun rt.dirs (l.take (i + 1)) }) := by
                  obtain ⟨h1, h2, h3, h4⟩ := HA3.out
                  obtain ⟨role', q1, q2⟩ := HR3.out.dir_step HBB.out (by show N2 + 1 = (rrun rt.dirs (l.take i)).length + 1; rw [HNN2.out]) h1 h2 h3 h4
                  refine ⟨role', .slice (some ⟨g3, 0, none⟩) (N2 + 1) cap3, ?_, ?_⟩
                  · exact (HM2.out.trans ((Moved.of_below HR2.out.hi (below_tr HBd.out (below1 wd _))).trans (q1.mono (by rintro r (e | e) <;> rw [e] <;> simp))))
                  · rw [HS.out, if_pos hk.out, HKEY.out]
                    exact q2
                clear HKM HKG HKP HA3 HBB HROW3 HR3 HBd HML HZ hwd hS hS2 HQ HS HROW HNN2
                go_wp2_with fail
                go_roundw
                case rel => exact ⟨i + 1, by go_num, by omega, HFIN⟩
                case measure => simp [intOf]; omega
            · have hi1 : ¬ (i : Int) < (n : Int) := by omega
              obtain rfl : n = i := by omega
              have HP := Lib.hid (place_c HR2.out p)
              have HFIN : Hid (Q (.returned (.tuple #[.int .i64 (idxOr (keyIdx (rrun rt.dirs l) p)), .int .i64 0])) wr) := by
                have e : l.take n = l := List.take_of_length_le (by have := HLN.out; omega)
                have hr := HR2.out
                rw [e] at hr
                exact HY.out role2 vD2 wr ((Moved.of_below HH.out.hi HB1.out).trans HM2.out) hr
              have HP2 : Hid (Calls Tryz.prog 53 #[.pointer (some ⟨M, 0, none⟩), .string p] wr fun e w' => e = .returned (.int .i64 (idxOr (keyIdx (rrun rt.dirs l) p))) ∧ w' = wr) := by
                have e : l.take n = l := List.take_of_length_le (by have := HLN.out; omega)
                have := HP.out
                simp only [e] at this
                exact this
              clear HP HY
              go_wp2_with (go_at_call 53; refine HP2.out.mono ?_; rintro e w2 ⟨rfl, h2⟩; obtain rfl : wr = w2 := h2.symm)
              exact HFIN.out
end
end Go.Proofs.YtnplmembdfklcaaGreatDoor
namespace Go.Proofs.YtnplmembdfklcaaGreatDoor
set_option linter.unusedVariables false
set_option linter.unusedSimpArgs false
open Go.RowKit Go.Maps

/-- The number of the directory that one is in. -/
def rup (ds : List ByteArray) (d : ByteArray) : Int := match upsL d with
  | none => 0
  | some l => if 1 < l.length then idxOr (keyIdx ds (mkB (l.getD (l.length - 2) []))) else 0
def rpathAns (ds : List ByteArray) (k : Int) : Value := match if 0 ≤ k then ds[k.toNat]? else none with
  | none => .tuple #[.string ⟨#[]⟩, .int .i64 0, .int .i64 84]
  | some d => .tuple #[.string d, .int .i64 (rup ds d), .int .i64 0]

section
variable {w w' : World} {B : Nat} {role role' : Nat → Role} {M : Nat} {vL vK vN vD : Value} {rt : RefT}
set_option maxHeartbeats 4000000 in
set_option maxRecDepth 100000 in
theorem rpath_c (h : RefIn w B role M vL vK vN vD rt) (hB : B ≤ w.heap.size) (k : Int) : Calls Tryz.prog 28 #[.pointer (some ⟨M, 0, none⟩), .int .i64 k] w fun e w' => e = .returned (rpathAns rt.dirs k) ∧ Below w.heap.size w w' := by
  have HH := Lib.hid h
  have HB := Lib.hid hB
  have HBR := Lib.hid (Below.refl w.heap.size w)
  obtain ⟨A, hA⟩ : ∃ A, rpathAns rt.dirs k = A := ⟨_, rfl⟩
  rw [hA]
  have HA := Lib.hid hA
  clear hA
  by_cases hk : k < 0
  · have HE : Hid (A = .tuple #[.string ⟨#[]⟩, .int .i64 0, .int .i64 84]) := by
      rw [Hid, ← HA.out]
      unfold rpathAns
      rw [if_neg (by omega)]
    clear h
    go_enter Tryz.func28, Tryz.ntmps28
    go_wp2_with fail
    refine bodyPost_ret (v := .tuple #[.string ⟨#[]⟩, .int .i64 0, .int .i64 84]) (by simp [results, Tryz.results28, go_sem]) rfl ?_
    exact ⟨by rw [HE.out], HBR.out⟩
  obtain ⟨K, rfl⟩ : ∃ K : Nat, k = K := ⟨k.toNat, by omega⟩
  have hk1 : ¬ ((K : Int) < 0) := hk
  obtain ⟨da, dc, hvD⟩ := ownsRow_slice h.dirs
  have c3 := h.box.cell (j := 3) rfl
  subst hvD
  obtain ⟨N, hN⟩ : ∃ N, rt.dirs.length = N := ⟨_, rfl⟩
  rw [hN] at c3
  have hNm : N ≤ 9223372036854775807 := by rw [← hN]; exact row_max h.dirs
  have HN := Lib.hid hN
  by_cases hKN : N ≤ K
  · have hq : (N : Int) ≤ (K : Int) := by omega
    have HE : Hid (A = .tuple #[.string ⟨#[]⟩, .int .i64 0, .int .i64 84]) := by
      rw [Hid, ← HA.out]
      unfold rpathAns
      rw [if_pos (by omega), Int.toNat_natCast, List.getElem?_eq_none (by omega)]
    clear h hN hk
    go_enter Tryz.func28, Tryz.ntmps28
    go_wp2_with fail
    refine bodyPost_ret (v := .tuple #[.string ⟨#[]⟩, .int .i64 0, .int .i64 84]) (by simp [results, Tryz.results28, go_sem]) rfl ?_
    exact ⟨by rw [HE.out], HBR.out⟩
  have hq : ¬ (N : Int) ≤ (K : Int) := by omega
  have hq2 : (K : Int) < (N : Int) := by omega
  have hKl : K < rt.dirs.length := by omega
  obtain ⟨d, hd⟩ : ∃ d, rt.dirs[K] = d := ⟨_, rfl⟩
  have HE : Hid (A = .tuple #[.string d, .int .i64 (rup rt.dirs d), .int .i64 0]) := by
    rw [Hid, ← HA.out]
    unfold rpathAns
    rw [if_pos (by omega), Int.toNat_natCast, List.getElem?_eq_getElem hKl, hd]
  obtain ⟨g, cap, hg, _⟩ := (ownsRow_form h.dirs).resolve_left (fun h => by have := h.2; omega)
  injection hg with hg1 _ hg3
  subst hg1 hg3
  have HC : Hid (∀ W, Below w.heap.size w W → W.cell? ⟨M, 3, none⟩ = some (.slice (some ⟨g, 0, none⟩) N dc) ∧ W.cell? ⟨g, K, none⟩ = some (.string d)) := fun W hb => by
    have hr := HH.out.below HB.out hb
    refine ⟨?_, ?_⟩
    · have := hr.box.cell (j := 3) rfl
      rw [HN.out] at this
      exact this
    · exact ownsRow_cell hr.dirs (by simp [hKl, hd])
  have c4 := (HC.out w HBR.out).2
  have HU := Lib.hid (refups_c d w)
  unfold UpsP at HU
  unfold rup at HE
  clear h hN hk HA
  cases hu : upsL d with
  | none =>
    rw [hu] at HU HE
    clear hu
    go_enter Tryz.func28, Tryz.ntmps28
    go_upto_region 4 with (go_at_call 52; refine HU.out.mono ?_; rintro e w1 ⟨rfl, hb1⟩)
    have HB1 := Lib.hid hb1
    clear hb1 c3 c4
    obtain ⟨c3, c4⟩ := HC.out w1 HB1.out
    go_wp2_with fail
    refine bodyPost_ret (v := .tuple #[.string d, .int .i64 0, .int .i64 0]) (by simp [results, Tryz.results28, go_sem]) rfl ?_
    exact ⟨by rw [HE.out], HB1.out⟩
  | some l =>
    rw [hu] at HU HE
    obtain ⟨hl1, hl2⟩ := upsL_size hu
    simp only [] at HE HU
    obtain ⟨n, hn⟩ : ∃ n, l.length = n := ⟨_, rfl⟩
    rw [hn] at hl2 HE HU
    have HLN := Lib.hid hn
    clear hu hn
    go_enter Tryz.func28, Tryz.ntmps28
    go_upto_region 4 with (go_at_call 52; refine HU.out.mono ?_; rintro e w1 ⟨⟨v, rfl, hv⟩, hb1⟩)
    obtain ⟨va, vc, rfl⟩ := ownsRow_slice hv
    have HV := Lib.hid hv
    have HB1 := Lib.hid hb1
    have HR1 := Lib.hid (HH.out.below HB.out hb1)
    clear hv hb1 c3 c4
    obtain ⟨c3, c4⟩ := HC.out w1 HB1.out
    by_cases h1 : 1 < n
    · have h1' : 1 < (n : Int) := by omega
      have hnl : n - 2 < l.length := by have := HLN.out; omega
      obtain ⟨g2, cap2, hg2, _⟩ := (ownsRow_form HV.out).resolve_left (fun h => by have := h.2; omega)
      injection hg2 with hg1 _ hg3
      subst hg1 hg3
      have c5 : w1.cell? ⟨g2, n - 2, none⟩ = some (.string (mkB l[n - 2])) := ownsRow_cell HV.out (by unfold strsL; simp [hnl])
      have HP := Lib.hid (place_c HR1.out (mkB l[n - 2]))
      have HE2 : Hid (A = .tuple #[.string d, .int .i64 (idxOr (keyIdx rt.dirs (mkB l[n - 2]))), .int .i64 0]) := by
        rw [Hid, HE.out, if_pos h1]
        have : l.getD (n - 2) [] = l[n - 2] := by simp [List.getD, hnl]
        rw [this]
      have f1 : IntKind.i64.wrap ((n : Int) - 2) = (n : Int) - 2 := IntWalk.i64_in _ (by omega)
      have f2 : ((n : Int) - 2).toNat = n - 2 := by omega
      have f3 : 0 ≤ (n : Int) - 2 := by omega
      have f4 : (n : Int) - 2 < (n : Int) := by omega
      obtain ⟨key, hkey⟩ : ∃ key, mkB l[n - 2] = key := ⟨_, rfl⟩
      rw [hkey] at c5 HP HE2
      obtain ⟨X, hX⟩ : ∃ X, idxOr (keyIdx rt.dirs key) = X := ⟨_, rfl⟩
      rw [hX] at HP HE2
      clear hkey hX HE
      go_wp2_with (go_at_call 53; refine HP.out.mono ?_; rintro e w2 ⟨rfl, h2⟩; obtain rfl : w1 = w2 := h2.symm)
      refine bodyPost_ret (v := .tuple #[.string d, .int .i64 X, .int .i64 0]) (by simp [results, Tryz.results28, go_sem]) rfl ?_
      exact ⟨by rw [HE2.out], HB1.out⟩
    · have h1' : ¬ 1 < (n : Int) := by omega
      rw [if_neg h1] at HE
      go_wp2_with fail
      refine bodyPost_ret (v := .tuple #[.string d, .int .i64 0, .int .i64 0]) (by simp [results, Tryz.results28, go_sem]) rfl ?_
      exact ⟨by rw [HE.out], HB1.out⟩
end
end Go.Proofs.YtnplmembdfklcaaGreatDoor
