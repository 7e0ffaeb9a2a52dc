/-
  planted: clauses that hold by some values. Helper text; the conditions are those typed.
-/
import Derived.Test.YtkeagjphddcjeaaSolS
import Derived.Test.YtkeagjphddcjeaaSatPlant
import Derived.StillTailTactics
namespace Go.Proofs.Ytkeagjphddcjeaa
set_option linter.unusedVariables false
set_option linter.unusedSimpArgs false
open Go.RowKit Go.Maps Sat

theorem OwnI.turn {w0 w : World} {g n c : Nat} {x y : Int} {t : List Int} (h : OwnI w0 (.slice (some ⟨g, 0, none⟩) n c) (x :: t) w) : OwnI w0 (.slice (some ⟨g, 0, none⟩) n c) (y :: t) (w.setCell ⟨g, 0, none⟩ (.int .i64 y)) := by
  have hn : n = (x :: t).length := by
    obtain ⟨a, c', e⟩ := ownsRow_slice h.1
    cases e
    rfl
  have hg := (h.1.lt g rfl).1
  have h1 := h.1
  rw [← hn] at h1
  have h2 := ownsRow_set h1 (j := 0) (by rw [hn]; simp) (.int .i64 y)
  rw [intsI_set] at h2
  refine ⟨?_, below_sc h.2 hg 0 _⟩
  rw [show (y :: t).length = n from by rw [hn]; rfl]
  exact h2
theorem OwnI.head {w0 w : World} {v : Value} {x : Int} {t : List Int} (h : OwnI w0 v (x :: t) w) : ∃ g c, v = .slice (some ⟨g, 0, none⟩) (t.length + 1) c ∧ w.cell? ⟨g, 0, none⟩ = some (.int .i64 x) ∧ w.frozen? ⟨g, 0, none⟩ = false ∧ w0.heap.size ≤ g ∧ g < w.heap.size := by
  rcases ownsRow_form h.1 with ⟨_, h0⟩ | ⟨g, cap, rfl, h1, _⟩
  · simp at h0
  · refine ⟨g, cap, rfl, ownsRow_cell h.1 (j := 0) rfl, ?_, (h.1.lt g rfl).1, (h.1.lt g rfl).2⟩
    rcases h.1.2 with ⟨e1, _⟩ | ⟨g', cap', cur, e1, _, hg, _⟩
    · cases e1
    · cases e1
      exact frozen_of hg

def flip1 : List Int → List Int
  | [] => []
  | x :: t => (-x) :: t
set_option maxHeartbeats 8000000 in
set_option maxRecDepth 100000 in
theorem planted_c {n : Nat} (hn : n ≤ 400) {w : World} {u vl : Value} {v : Asg} {ls : List (List Int)} (hu : BoolsV w u (bsOf n v)) (hl : RowsV w vl ls) (hlen : ls.length ≤ 200) (hsh : ∀ c ∈ ls, c.length ≤ 4) (hx : ∀ c ∈ ls, ∀ x ∈ c, Lok n x) :
    Calls Try.prog 21 #[u, vl] w (FoldPost w (plantL v ls)) := by
  obtain ⟨Q, hQ⟩ : ∃ Q, FoldPost w (plantL v ls) = Q := ⟨_, rfl⟩
  rw [hQ]
  replace hQ := Lib.hid hQ
  have HH := Lib.hid (fun (W : World) (hb : Below w.heap.size w W) (c : List Int) (vc : Value) (hc : IntsV W vc c) (hm : c ∈ ls) => holds_c (hu.below hb) hn hc (Nat.le_trans (hsh c hm) (by omega)) (hx c hm))
  have HSH := Lib.hid hsh
  have HX := Lib.hid hx
  obtain ⟨al, cl, f, hvl, hcl, hcell, hrows⟩ := hl
  subst hvl
  have HROWS := Lib.hid hrows
  obtain ⟨L, hLL⟩ : ∃ L, ls.length = L := ⟨_, rfl⟩
  have HCELL : Hid (∀ i, i < L → ∃ b off, al = some ⟨b, off, none⟩ ∧ b < w.heap.size ∧ w.cell? ⟨b, off + i, none⟩ = some (f i)) := fun i hi => by
    rcases hcell with h | ⟨b, off, h1, h2, h3⟩
    · rw [← hLL, h] at hi; cases hi
    · exact ⟨b, off, h1, h2, h3 i (by rw [hLL]; exact hi)⟩
  rw [hLL] at hcl hlen ⊢
  have HLL := Lib.hid hLL
  clear hrows hcell hLL hu hsh hx
  go_enter Try.func21, Try.ntmps21
  go_wp2_with fail
  go_loopg [5, 6] L (fun gk v5 v6 wx => ∃ (i : Nat) (vo : Value), vo = v5 ∧ v6 = .int .i64 (i : Int) ∧ i ≤ L ∧ L ≤ i + gk ∧ Hid (MadeR w.heap.size wx vo (plantL v (ls.take i)) ∧ Below w.heap.size w wx))
  case atStart => exact ⟨0, _, rfl, rfl, by omega, by omega, MadeR.nil _ _, Below.refl _ _⟩
  case round =>
    obtain ⟨gI, rfl⟩ : ∃ x : Nat, x = gk := ⟨_, rfl⟩
    obtain ⟨i, vo, rfl, rfl, hiL, hik, HM⟩ := hrel
    obtain ⟨w3, hw3⟩ : ∃ w3, wr = w3 := ⟨_, rfl⟩
    rw [hw3] at HM ⊢
    clear hw3
    by_cases hi : i < L
    · have hi1 : (i : Int) < (L : Int) := by omega
      obtain ⟨d, hd⟩ : ∃ d, ls[i]? = some d := ⟨_, List.getElem?_eq_getElem (by rw [HLL.out]; exact hi)⟩
      obtain ⟨bb, off, hal, hbl, hcel⟩ := HCELL.out i hi
      have hints := HROWS.out i d hd
      have hints' := hints
      obtain ⟨xa, xc, hfk, _, _⟩ := hints'
      obtain ⟨xn, hxn⟩ : ∃ xn, d.length = xn := ⟨_, rfl⟩
      rw [hxn] at hfk
      rw [hfk] at hcel hints
      subst hal
      have c1 := cell_tr HM.out.2 hcel
      have HD := Lib.hid hd
      have hdm := List.mem_of_getElem? hd
      have HIV3 : Hid (IntsV w3 (.slice xa xn xc) d) := hints.below HM.out.2
      have HDL : Hid (d.length ≤ 4) := HSH.out d hdm
      have HL1 : Hid ((([] : List Int).length + d.length) * 8 ≤ 140737488355328) := by
        show (([] : List Int).length + d.length) * 8 ≤ 140737488355328
        have := HDL.out
        rw [List.length_nil]
        omega
      have HTK : Hid (plantL v (ls.take (i + 1)) = plantL v (ls.take i) ++ (if (plantC v d).isEmpty then [] else [plantC v d])) := plantL_take hd
      have HHD : Hid (∀ (W : World) (vc : Value), Below w.heap.size w W → IntsV W vc d → Calls Try.prog 26 #[u, vc] W fun e w' => e = .returned (.bool (d.any (litB v))) ∧ w' = W) := fun W vc hb hc => HH.out W hb d vc hc hdm
      have HLP : Hid (∀ k : List Int, ((plantL v (ls.take i)).length + [k].length) * 24 ≤ 140737488355328) := fun k => by
        have h1 := plantL_len v (ls.take i)
        have h2 := List.length_take_le i ls
        rw [List.length_singleton]
        omega
      clear hd hints hcel hfk hdm hxn
      go_upto_region 5 with fail
      go_cut [7] from 15 to 43 (fun v7 wx => ∃ (a7 : Option Addr) (n7 c7 : Nat), v7 = .slice a7 n7 c7 ∧ Hid (n7 = d.length ∧ OwnI w3 (.slice a7 n7 c7) d wx))
      case first =>
        have HF : Hid (OwnI w3 (.slice (some ⟨w3.heap.size, 0, none⟩) 0 0) [] (w3.alloc (.cells #[] 3))) := OwnI.fresh (Below.refl _ _) rfl
        have HI2 : Hid (IntsV (w3.alloc (.cells #[] 3)) (.slice xa xn xc) d) := HIV3.out.below (below1 _ _)
        have c2 := cell_tr (below1 w3 (.cells #[] 3)) c1
        go_wp2_with (at_builtin; refine wpList_appI rfl (.tmp 15) (.tmp 19) rfl rfl rfl HF.out HI2.out HL1.out ?_; intro v5 w5 h5 hg5; replace h5 := Lib.hid h5; clear hg5)
        have HV6 : Hid (∃ (a7 : Option Addr) (n7 c7 : Nat), v5 = .slice a7 n7 c7 ∧ n7 = d.length) := by
          obtain ⟨a7, c7, e⟩ := ownsRow_slice h5.out.1
          exact ⟨a7, _, c7, e, rfl⟩
        obtain ⟨a7, n7, c7, rfl, hn7⟩ := HV6.out
        replace hn7 := Lib.hid hn7
        go_meet
        case rel => exact ⟨a7, n7, c7, rfl, hn7.out, h5.out⟩
      case rest =>
        obtain ⟨a7, n7, c7, rfl, HC⟩ := hcut
        obtain ⟨w5, rfl⟩ : ∃ w5 : World, w5 = wc := ⟨_, rfl⟩
        have HBW : Hid (Below w.heap.size w w5) := below_tr HM.out.2 (below_to HC.out.2.2 (Nat.le_refl _))
        have HCALL := Lib.hid (HHD.out w5 (.slice a7 n7 c7) HBW.out HC.out.2.ints)
        have HM5 : Hid (MadeR w.heap.size w5 vo (plantL v (ls.take i))) := HM.out.1.below HC.out.2.2
        -- the row d' at v7 in some world, laid behind
        have HAPP : Hid (∀ (W : World) (k : List Int), OwnI w3 (.slice a7 n7 c7) k W → MadeR w.heap.size (W.alloc (.cells #[.slice a7 n7 c7] 24)) vo (plantL v (ls.take i)) ∧ RowsO (W.alloc (.cells #[.slice a7 n7 c7] 24)) vo (.slice (some ⟨W.heap.size, 0, none⟩) 1 1) [k] ∧ Below w.heap.size w (W.alloc (.cells #[.slice a7 n7 c7] 24))) := fun W k hk =>
          ⟨(HM.out.1.below hk.2).below (below1 _ _), RowsO.one (boxN_alloc W [.slice a7 n7 c7] 24) (hk.ints.below (below1 _ _)) (OwnI.off HM.out.1 hk), below_tr (below_tr HM.out.2 hk.2) (below1 _ _)⟩
        clear c1 HHD
        cases hz : d.any (litB v) with
        | true =>
          rw [hz] at HCALL
          have HN : Hid (plantL v (ls.take (i + 1)) = plantL v (ls.take i) ++ [d]) := by
            show plantL v (ls.take (i + 1)) = plantL v (ls.take i) ++ [d]
            rw [HTK.out]
            have : plantC v d = d := by unfold plantC; rw [if_pos hz]
            rw [this]
            cases d with
            | nil => cases hz
            | cons x t => rfl
          have h1 : (0 : Int) < (n7 : Int) := by
            have := HC.out.1
            cases d with
            | nil => cases hz
            | cons x t => simp at this; omega
          have HA := Lib.hid (HAPP.out w5 d HC.out.2)
          clear hz
          go_wp2_with (first
            | (go_at_call 26; refine HCALL.out.mono ?_; rintro e w6 ⟨rfl, rfl⟩)
            | (at_builtin; refine wpList_appR rfl (.tmp 40) (.tmp 42) rfl rfl rfl HA.out.1 HA.out.2.1 (HLP.out d) HA.out.2.2.size ?_; intro v9 w9 hm9 hb9; replace hm9 := Lib.hid hm9; replace hb9 := Lib.hid hb9))
          go_roundg (gI - 1)
          case measure => omega
          case rel => exact ⟨i + 1, _, rfl, by go_num, by omega, by omega, by
            rw [HN.out]
            exact hm9.out, HA.out.2.2.trans hb9.out⟩
        | false =>
          rw [hz] at HCALL
          have HPC : Hid (plantC v d = flip1 d) := by
            show plantC v d = _
            unfold plantC flip1
            rw [if_neg (by rw [hz]; simp)]
            cases d <;> rfl
          clear hz
          cases d with
          | nil =>
            have hn7 : n7 = 0 := HC.out.1
            subst hn7
            have HN : Hid (plantL v (ls.take (i + 1)) = plantL v (ls.take i)) := by
              show plantL v (ls.take (i + 1)) = plantL v (ls.take i)
              rw [HTK.out, HPC.out]
              exact List.append_nil _
            go_wp2_with (go_at_call 26; refine HCALL.out.mono ?_; rintro e w6 ⟨rfl, rfl⟩)
            go_roundg (gI - 1)
            case measure => omega
            case rel => exact ⟨i + 1, _, rfl, by go_num, by omega, by omega, by
              rw [HN.out]
              exact HM5.out, HBW.out⟩
          | cons x t =>
            have HN : Hid (plantL v (ls.take (i + 1)) = plantL v (ls.take i) ++ [(-x) :: t]) := by
              show plantL v (ls.take (i + 1)) = plantL v (ls.take i) ++ [(-x) :: t]
              rw [HTK.out, HPC.out]
              rfl
            obtain ⟨g, c8, hv, hc0, hfz, hg1, hg2⟩ := HC.out.2.head
            obtain ⟨e1, e2, e3⟩ : a7 = some ⟨g, 0, none⟩ ∧ n7 = t.length + 1 ∧ c7 = c8 := by
              cases hv
              exact ⟨rfl, rfl, rfl⟩
            clear e2 e3 hv
            subst e1
            have hxr : -1000 ≤ x ∧ x ≤ 1000 := by
              have := (HX.out _ (List.mem_of_getElem? HD.out) x (List.mem_cons_self ..)).2
              omega
            have h1 : (0 : Int) < (n7 : Int) := by
              have := HC.out.1
              simp at this
              omega
            have h2 : 0 < n7 := by omega
            have HT := Lib.hid (HC.out.2.turn (y := -x))
            have hA := HAPP.out _ _ HT.out
            rw [set_size] at hA
            have HA := Lib.hid hA
            clear hA
            go_wp2_with (first
              | (go_at_call 26; refine HCALL.out.mono ?_; rintro e w6 ⟨rfl, rfl⟩)
              | (at_builtin; refine wpList_appR rfl (.tmp 40) (.tmp 42) rfl rfl rfl HA.out.1 HA.out.2.1 (HLP.out _) HA.out.2.2.size ?_; intro v9 w9 hm9 hb9; replace hm9 := Lib.hid hm9; replace hb9 := Lib.hid hb9))
            go_roundg (gI - 1)
            case measure => omega
            case rel => exact ⟨i + 1, _, rfl, by go_num, by omega, by omega, by
              rw [HN.out]
              exact hm9.out, HA.out.2.2.trans hb9.out⟩
    · have HQ : Hid (Q (.returned vo) w3) := by
        show Q _ _
        rw [← hQ.out]
        have e : ls.take i = ls := List.take_of_length_le (by rw [HLL.out]; omega)
        refine ⟨vo, rfl, ?_, HM.out.2⟩
        have := HM.out.1
        rw [e] at this
        exact this
      have hi3 : ¬ (i : Int) < (L : Int) := by omega
      go_wp2_with fail
      exact HQ.out
end Go.Proofs.Ytkeagjphddcjeaa
