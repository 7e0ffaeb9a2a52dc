/-
  The solver: undo. Helper text; the conditions are those typed.
-/
import Derived.Test.YtkeagjphddcjeaaSolD
import Derived.Test.YtkeagjphddcjeaaOrd2
namespace Go.Proofs.Ytkeagjphddcjeaa
set_option linter.unusedVariables false
set_option linter.unusedSimpArgs false
open Go.RowKit Go.Maps Sat

/-- What 'undo' changes. -/
def UndoT (r : Role) : Prop := r = .vals ∨ r = .box
theorem ownsRow_take {w : World} {B : Nat} {e : TypeId} {g n cap : Nat} {xs : List Value} (h : w.ownsRow B e 1 (.slice (some ⟨g, 0, none⟩) n cap) n xs) {m : Nat} (hm : m ≤ n) : w.ownsRow B e 1 (.slice (some ⟨g, 0, none⟩) m cap) m (xs.take m) := by
  have hl := h.1
  refine ⟨by rw [List.length_take, hl]; omega, ?_⟩
  rcases h.2 with ⟨e1, _⟩ | ⟨g', cap', cur, e1, hB, hg, hc, hM, hs, ht⟩
  · cases e1
  · cases e1
    refine .inr ⟨g, cap, cur, rfl, hB, hg, Nat.le_trans hm hc, hM, hs, ?_⟩
    rw [← ht, List.take_take]
    congr 1
    omega
/-- The values while literals are taken away. -/
def valU (tr : List En) (l : List En) (u : Nat) : Int := if l.any (fun e => decide (vr e.lit = u)) then 0 else valOf tr u
theorem valU_nil (tr : List En) (u : Nat) : valU tr [] u = valOf tr u := rfl
theorem valU_snoc (tr l : List En) (e : En) (u : Nat) : valU tr (l ++ [e]) u = if u = vr e.lit then 0 else valU tr l u := by
  unfold valU
  rw [List.any_append]
  by_cases h : u = vr e.lit
  · subst h
    simp
  · simp [h, Ne.symm h]
theorem valU_all {n : Nat} {orig : List Cl} {gs : List Int} {cs : List Cl} {tr : List En} {mk : List Nat} (h : Tr n orig gs cs tr mk) (m : Nat) (u : Nat) : valU tr (tr.drop m) u = valOf (tr.take m) u := by
  unfold valU
  by_cases ha : (tr.drop m).any (fun e => decide (vr e.lit = u)) = true
  · rw [if_pos ha]
    obtain ⟨e, he, hv⟩ := List.any_eq_true.1 ha
    simp only [decide_eq_true_eq] at hv
    have ho : Sat.Open (tr.take m) e.lit := fun e' he' hh => by
      obtain ⟨p, hp⟩ := List.mem_iff_getElem?.1 he
      obtain ⟨q, hq⟩ := List.mem_iff_getElem?.1 he'
      rw [List.getElem?_drop] at hp
      obtain ⟨hq1, hq2⟩ := get_take hq
      have := h.one q (m + p) e' e hq1 hp hh
      omega
    rw [← hv, valOf_open ho]
  · rw [if_neg ha]
    have e1 : tr = tr.take m ++ tr.drop m := (List.take_append_drop m tr).symm
    have e2 : valOf tr u = valOf (tr.take m ++ tr.drop m) u := by rw [← e1]
    rw [e2]
    unfold valOf
    rw [List.find?_append]
    have : (tr.drop m).find? (fun e => decide (vr e.lit = u)) = none := List.find?_eq_none.2 fun e he hv => ha (List.any_eq_true.2 ⟨e, he, hv⟩)
    rw [this]
    cases (tr.take m).find? (fun e => decide (vr e.lit = u)) <;> rfl

section
variable {w w' : World} {B : Nat} {role role' : Nat → Role} {S M gv gl gr : Nat} {vc vt vm : Value} {head n : Nat} {cv : Nat → Value} {wo : Int → Option Value} {wl : Int → List Nat} {cs : List Cl} {tr : List En} {mk : List Nat} {T : Role → Prop}

theorem SolIn.undone (h : SolIn w B role S M gv gl gr vc vt vm head n cv wo wl cs tr mk) (hB : B ≤ w.heap.size) {w1 : World} (hs : Step UndoT role w role w1) {gt ct gm cm m back : Nat} (ht : vt = .slice (some ⟨gt, 0, none⟩) tr.length ct) (hm : vm = .slice (some ⟨gm, 0, none⟩) mk.length cm)
    (hmt : m ≤ tr.length) (hmb : back ≤ mk.length) (hv : BoxF w1 gv n (fun u => .int .i64 (valOf (tr.take m) u)) 3)
    (hbox : BoxN w1 S [vc, .map (some M), .slice (some ⟨gv, 0, none⟩) n n, .slice (some ⟨gl, 0, none⟩) n n, .slice (some ⟨gr, 0, none⟩) n n, .slice (some ⟨gt, 0, none⟩) m ct, .slice (some ⟨gm, 0, none⟩) back cm, .int .i64 (m : Int)] 54) :
    SolIn w1 B role S M gv gl gr vc (.slice (some ⟨gt, 0, none⟩) m ct) (.slice (some ⟨gm, 0, none⟩) back cm) m n cv wo wl cs (tr.take m) (mk.take back) := by
  subst ht hm
  have blk := fun {b : Nat} {R : Role} (hb : role b = R) (h1 : R ≠ .free) (h2 : ¬ (UndoT R)) => h.blk hs hb h1 h2
  obtain ⟨fl, hl1, hl2⟩ := h.levs
  obtain ⟨fr, hr1, hr2⟩ := h.whys
  refine { h with
    box := hbox
    crow := ownsRow_to h.crow fun g hg => (blk (h.rc g hg) (by simp) (by simp [UndoT])).1
    clause := fun i c hc => ownsRow_to (h.clause i c hc) fun g hg => (blk (h.rC i g (List.getElem?_eq_some_iff.1 hc).1 hg) (by simp) (by simp [UndoT])).1
    watch := h.watch.block (blk h.rM (by simp) (by simp [UndoT])).1
    wlist := fun l => (h.wlist l).to fun hne g hg => ?_
    vals := hv
    levs := ⟨fl, hl1.to (blk h.rl (by simp) (by simp [UndoT])).1, fun e he => hl2 e (List.mem_of_mem_take he)⟩
    whys := ⟨fr, hr1.to (blk h.rr (by simp) (by simp [UndoT])).1, fun e he => hr2 e (List.mem_of_mem_take he)⟩
    trow := ?_
    mrow := ?_
    rt := fun g hg => h.rt g (by cases hg; rfl)
    rm := fun g hg => h.rm g (by cases hg; rfl)
    hi := hs.inn }
  · cases hw : wo l with
    | none => rw [hw] at hg; cases hg
    | some v =>
      rw [hw] at hg hne
      exact (blk (h.rW l g v hw hne hg) (by simp) (by simp [UndoT])).1
  · have h1 := ownsRow_take (ownsRow_to h.trow fun g hg => (blk (h.rt g hg) (by simp) (by simp [UndoT])).1) hmt
    rw [List.length_take, Nat.min_eq_left hmt, List.map_take]
    unfold intsI at *
    rw [List.map_take]
    exact h1
  · have h1 := ownsRow_take (ownsRow_to h.mrow fun g hg => (blk (h.rm g hg) (by simp) (by simp [UndoT])).1) hmb
    rw [List.length_take, Nat.min_eq_left hmb]
    unfold natsI at *
    rw [List.map_take]
    exact h1

def UndoPost (role : Nat → Role) (w : World) (B S M gv gl gr : Nat) (vc : Value) (m back n : Nat) (cv : Nat → Value) (wo : Int → Option Value) (wl : Int → List Nat) (cs : List Cl) (tr : List En) (mk : List Nat) (e : Ending) (w' : World) : Prop :=
  e = .returned (.tuple #[]) ∧ ∃ vt' vm', Step UndoT role w role w' ∧ SolIn w' B role S M gv gl gr vc vt' vm' m n cv wo wl cs (tr.take m) (mk.take back)

set_option maxHeartbeats 4000000 in
set_option maxRecDepth 100000 in
theorem undo_c {orig : List Cl} {gs : List Int} (h : SolIn w B role S M gv gl gr vc vt vm head n cv wo wl cs tr mk) (hB : B ≤ w.heap.size) (hn : n ≤ 1000) (hT : Tr n orig gs cs tr mk) {back m : Nat} (hm : mk[back]? = some m) (hmk : mk.length ≤ 1000) :
    Calls Try.prog 35 #[.pointer (some ⟨S, 0, none⟩), .int .i64 (back : Int)] w (UndoPost role w B S M gv gl gr vc m back n cv wo wl cs tr mk) := by
  have hbl : back < mk.length := (List.getElem?_eq_some_iff.1 hm).1
  have hml : m < tr.length := hT.inn m (List.mem_of_getElem? hm)
  have hlen := tr_len hT
  obtain ⟨gt, ct, hvt, ht1, ht2⟩ := (ownsRow_form h.trow).resolve_left (fun h => by have := h.2; omega)
  obtain ⟨gm, cm, hvm, hm1, hm2⟩ := (ownsRow_form h.mrow).resolve_left (fun h => by have := h.2; omega)
  subst hvt hvm
  obtain ⟨Q, hQ⟩ : ∃ Q, UndoPost role w B S M gv gl gr vc m back n cv wo wl cs tr mk = Q := ⟨_, rfl⟩
  rw [hQ]
  replace hQ := Lib.hid hQ
  have HH := Lib.hid h
  have HT := Lib.hid hT
  have HB0 := Lib.hid hB
  have HM := Lib.hid hm
  obtain ⟨N, hN⟩ : ∃ N, N = tr.length := ⟨_, rfl⟩
  obtain ⟨L, hL⟩ : ∃ L, L = mk.length := ⟨_, rfl⟩
  have b6 := h.box.cell (j := 6) rfl
  have b5 := h.box.cell (j := 5) rfl
  have m0 : w.cell? ⟨gm, back, none⟩ = some (.int .i64 (m : Int)) := ownsRow_cell h.mrow (by unfold natsI; simp [hm])
  rw [← hL] at b6 hbl hmk hm1
  rw [← hN] at b5 hml hlen ht1
  clear h hT hB hm
  replace hN := Lib.hid hN
  replace hL := Lib.hid hL
  have hbl1 : (back : Int) < (L : Int) := by omega
  have hml1 : (m : Int) < (N : Int) := by omega
  obtain ⟨d, hd⟩ : ∃ d, d = N - m := ⟨_, rfl⟩
  have hd1 : (N : Int) - (m : Int) = (d : Int) := by omega
  go_enter Try.func35, Try.ntmps35
  go_upto_region 3 with fail
  have hdec : decide (L ≤ back) = false := by simp; omega
  rw [hdec, ← hd]
  replace hd := Lib.hid hd
  clear hdec
  go_loopw [28] (fun vi wr => ∃ (i : Nat), vi = .int .i64 i ∧ i ≤ d ∧ Hid (Step UndoT role w role wr ∧ wr.heap[S]? = w.heap[S]? ∧ BoxF wr gv n (fun u => .int .i64 (valU tr ((tr.drop m).take i) u)) 3)) (fun vi _ => d - (intOf vi).toNat)
  case atStart => exact ⟨0, rfl, Nat.zero_le _, (Step.of_below HH.out.hi (Below.refl _ _)).mono (fun _ h => h.elim), rfl, HH.out.vals⟩
  case round =>
    obtain ⟨i, rfl, hid, HX⟩ := hrel
    by_cases hlt : i < d
    · have hi1 : (i : Int) < (d : Int) := by omega
      have hmi : m + i < tr.length := by have := hN.out; have := hd.out; omega
      have hrow := ownsRow_to HH.out.trow fun b hb => (HH.out.blk HX.out.1 (HH.out.rt b hb) (by simp) (by simp [UndoT])).1
      have c0 : wr.cell? ⟨gt, m + i, none⟩ = some (.int .i64 tr[m + i].lit) := by
        have h1 := ownsRow_cell hrow (j := m + i) (v := .int .i64 tr[m + i].lit) (by unfold intsI; simp [hmi])
        exact h1
      clear hrow
      have hok : Lok n tr[m + i].lit := HT.out.ok _ (List.getElem_mem hmi)
      have hnew : ∀ u, valU tr ((tr.drop m).take (i + 1)) u = if u = vr tr[m + i].lit then 0 else valU tr ((tr.drop m).take i) u := fun u => by
        have hlen : i < (tr.drop m).length := by rw [List.length_drop]; have := hd.out; omega
        rw [List.take_succ_eq_append_getElem hlen, valU_snoc, List.getElem_drop]
      have HO := Lib.hid (fun w => of_c hok hn w)
      have hun := hok.lt
      generalize tr[m + i].lit = l at c0 hok hnew HO hun
      have HF : Hid (∀ w1 : World, Step (fun r => r = .vals) role wr role w1 → w1.heap[S]? = wr.heap[S]? → BoxF w1 gv n (fun j => if j = vr l then .int .i64 0 else .int .i64 (valU tr ((tr.drop m).take i) j)) 3 → Step UndoT role w role w1 ∧ w1.heap[S]? = w.heap[S]? ∧ BoxF w1 gv n (fun u => .int .i64 (valU tr ((tr.drop m).take (i + 1)) u)) 3) := fun w1 h1 h2 h3 =>
        ⟨(HX.out.1.trans h1).mono (by rintro r (e | e); exact e; exact .inl e), h2.trans HX.out.2.1, h3.congr fun j _ => (by
          rw [hnew]
          by_cases e : j = vr l <;> simp [e])⟩
      clear hnew
      have hbS : BoxN wr S _ 54 := HH.out.box.to HX.out.2.1
      have HQ : Hid (∀ W : World, W.heap[S]? = wr.heap[S]? → W.cell? ⟨S, 2, none⟩ = some (.slice (some ⟨gv, 0, none⟩) n n)) := fun W hW => (hbS.to hW).cell (j := 2) rfl
      clear hbS
      generalize vr l = u at HO hun HF
      have hun1 : (u : Int) < (n : Int) := by omega
      go_upto_region 5 with fail
      refine wp_region_ord (fun W => W.heap = wr.heap) 7 [(true, 0), (true, 1), (true, 2), (true, 3), (true, 4), (false, 5), (true, 6), (false, 7)] (by kernel_rfl) (by kernel_rfl) (fun _ _ d _ _ h => by cases d <;> exact h) rfl ?_
      intro wd hwd hS
      simp only [ordOps, List.map_cons, List.map_nil, Array.getD_eq_getD_getElem?, List.getElem?_toArray, List.getElem?_cons_succ, List.getElem?_cons_zero, Option.getD_some]
      iterate 5 (refine wpOrd_q rfl _ (fun w' hS' K hK => (by have q1 := HQ.out w' (by rw [hS']); clear hS'; go_simp; exact hK)) (fun K hK => ?_); go_simp; refine hK _ ?_; clear hK K)
      refine wpOrd_l rfl (fun K hK => ?_)
      go_simp
      go_at_call 46
      refine (HO.out _).mono ?_
      rintro e w1 ⟨rfl, rfl⟩
      go_simp
      refine hK _ _ ⟨fun _ => hS, ?_⟩
      clear hK K
      refine wpOrd_q rfl _ (fun w' hS' K hK => (by clear hS'; go_simp; exact hK)) (fun K hK => ?_)
      go_simp
      refine hK _ ?_
      clear hK K
      have hv1 : BoxF w1 gv n (fun u => .int .i64 (valU tr ((tr.drop m).take i) u)) 3 := HX.out.2.2.to (by rw [hS])
      have v0 := hv1.cell hun
      have v1 := hv1.frozen u
      refine wpOrd_l rfl (fun K hK => ?_)
      go_simp
      refine hK _ _ ⟨fun h => absurd rfl h, ?_⟩
      clear hK K
      refine wpOrd_nil ?_
      have HW : Hid (Step UndoT role w role (w1.setCell ⟨gv, u, none⟩ (.int .i64 0)) ∧ (w1.setCell ⟨gv, u, none⟩ (.int .i64 0)).heap[S]? = w.heap[S]? ∧ BoxF (w1.setCell ⟨gv, u, none⟩ (.int .i64 0)) gv n (fun u => .int .i64 (valU tr ((tr.drop m).take (i + 1)) u)) 3) := by
        have hin := HX.out.1.inn
        have s0 : Step (fun _ => False) role wr role w1 := by
          have e := hwd.out
          rw [e]
          exact Step.of_below hin (below_dr1 (Below.refl _ _))
        have s1 := Step.of_set s0.inn gv u (.int .i64 0)
        refine HF.out _ ((s0.trans s1).mono (by rintro r (e | e); exact e.elim; exact e.trans HH.out.rv)) ((set_other _ (fun e => by have h1 := HH.out.rS; rw [e, HH.out.rv] at h1; cases h1)).trans (by rw [hS])) ((hv1.set u _).congr fun j _ => rfl)
      generalize w1.setCell ⟨gv, u, none⟩ (.int .i64 0) = w2 at HW ⊢
      clear v0 v1 hv1 hS hwd c0 HQ HF HO HX
      go_wp2_with fail
      go_roundw
      case rel => exact ⟨i + 1, by go_num, by omega, HW.out⟩
      case measure => simp [intOf]; omega
    · have hi : i = d := by omega
      subst hi
      have hbS : BoxN wr S [vc, .map (some M), .slice (some ⟨gv, 0, none⟩) n n, .slice (some ⟨gl, 0, none⟩) n n, .slice (some ⟨gr, 0, none⟩) n n, .slice (some ⟨gt, 0, none⟩) N ct, .slice (some ⟨gm, 0, none⟩) L cm, .int .i64 (head : Int)] 54 := by
        rw [hN.out, hL.out]
        exact HH.out.box.to HX.out.2.1
      have HQ : Hid (∀ W : World, W.heap[S]? = wr.heap[S]? → W.cell? ⟨S, 5, none⟩ = some (.slice (some ⟨gt, 0, none⟩) N ct) ∧ W.cell? ⟨S, 6, none⟩ = some (.slice (some ⟨gm, 0, none⟩) L cm)) := fun W hW => ⟨(hbS.to hW).cell (j := 5) rfl, (hbS.to hW).cell (j := 6) rfl⟩
      have hmc : (m : Int) ≤ (ct : Int) := by omega
      have hbc : (back : Int) ≤ (cm : Int) := by omega
      replace hbS := Lib.hid hbS
      go_upto_region 7 with fail
      refine Two.wp_region_ord2 (fun W => W.heap[S]? = wr.heap[S]?) (fun _ => True) 18 24 [(.qb, 0), (.qb, 1), (.qb, 2), (.qb, 3), (.qb, 4), (.qb, 5), (.qa, 6), (.qb, 7), (.qb, 8), (.qb, 9), (.qb, 10), (.qb, 11), (.qa, 12), (.qb, 13), (.qb, 14), (.qb, 15), (.qb, 16), (.qb, 17), (.l1, 18), (.qb, 19), (.qb, 20), (.l1, 21), (.l1, 22), (.qb, 23), (.l2, 24)] (by kernel_rfl) (by kernel_rfl) (fun _ _ d _ _ h => by cases d <;> exact h) rfl trivial ?_
      intro wd hwd hS hS2
      simp only [Two.ordOps2, List.map_cons, List.map_nil, Array.getD_eq_getD_getElem?, List.getElem?_toArray, List.getElem?_cons_succ, List.getElem?_cons_zero, Option.getD_some]
      iterate 6 (refine Two.step_qb rfl _ (fun w' hS' K hK => (by clear hS'; go_simp; exact hK)) (fun K hK => ?_); go_simp; refine hK _ ?_; clear hK K)
      refine Two.step_qa rfl _ (fun w' hS' K hK => (by have q1 := (HQ.out w' hS').1; clear hS'; go_simp; exact hK)) (fun K hK => ?_); go_simp; refine hK _ ?_; clear hK K
      iterate 5 (refine Two.step_qb rfl _ (fun w' hS' K hK => (by clear hS'; go_simp; exact hK)) (fun K hK => ?_); go_simp; refine hK _ ?_; clear hK K)
      refine Two.step_qa rfl _ (fun w' hS' K hK => (by have q1 := (HQ.out w' hS').2; clear hS'; go_simp; exact hK)) (fun K hK => ?_); go_simp; refine hK _ ?_; clear hK K
      iterate 5 (refine Two.step_qb rfl _ (fun w' hS' K hK => (by clear hS'; go_simp; exact hK)) (fun K hK => ?_); go_simp; refine hK _ ?_; clear hK K)
      have hbd : BoxN wd S [vc, .map (some M), .slice (some ⟨gv, 0, none⟩) n n, .slice (some ⟨gl, 0, none⟩) n n, .slice (some ⟨gr, 0, none⟩) n n, .slice (some ⟨gt, 0, none⟩) N ct, .slice (some ⟨gm, 0, none⟩) L cm, .int .i64 (head : Int)] 54 := hbS.out.to hS
      have p0 := hbd.cell (j := 5) rfl
      have p1 := hbd.frozen 5
      refine Two.step_l1 rfl (fun K hK => ?_)
      go_simp
      refine hK _ _ ⟨trivial, ?_⟩
      clear hK K p0 p1
      iterate 2 (refine Two.step_qb rfl _ (fun w' hS' K hK => (by clear hS'; go_simp; exact hK)) (fun K hK => ?_); go_simp; refine hK _ ?_; clear hK K)
      have hbd1 := hbd.set 5 (.slice (some ⟨gt, 0, none⟩) m ct)
      have p0 := hbd1.cell (j := 6) rfl
      have p1 := hbd1.frozen 6
      refine Two.step_l1 rfl (fun K hK => ?_)
      go_simp
      refine hK _ _ ⟨trivial, ?_⟩
      clear hK K p0 p1
      refine Two.step_l1 rfl (fun K hK => ?_)
      go_simp
      refine hK _ _ ⟨trivial, ?_⟩
      clear hK K
      iterate 1 (refine Two.step_qb rfl _ (fun w' hS' K hK => (by clear hS'; go_simp; exact hK)) (fun K hK => ?_); go_simp; refine hK _ ?_; clear hK K)
      have hbd2 := hbd1.set 6 (.slice (some ⟨gm, 0, none⟩) back cm)
      have p0 := hbd2.cell (j := 7) rfl
      have p1 := hbd2.frozen 7
      refine Two.step_l2 rfl (fun K hK => ?_)
      go_simp
      refine hK _ _ ?_
      clear hK K p0 p1
      refine Two.step_nil ?_
      have hbd3 := hbd2.set 7 (.int .i64 (m : Int))
      obtain ⟨w3, hw3⟩ : ∃ w3, ((wd.setCell ⟨S, 5, none⟩ (.slice (some ⟨gt, 0, none⟩) m ct)).setCell ⟨S, 6, none⟩ (.slice (some ⟨gm, 0, none⟩) back cm)).setCell ⟨S, 7, none⟩ (.int .i64 (m : Int)) = w3 := ⟨_, rfl⟩
      have HFIN : Hid (UndoPost role w B S M gv gl gr vc m back n cv wo wl cs tr mk (.returned (.tuple #[])) w3) := by
        have sd : Step (fun _ => False) role wr role wd := by
          rw [hwd.out]
          exact Step.of_below HX.out.1.inn (below_dr1 (Below.refl _ _))
        have s1 := Step.of_set sd.inn S 5 (.slice (some ⟨gt, 0, none⟩) m ct)
        have s2 := Step.of_set s1.inn S 6 (.slice (some ⟨gm, 0, none⟩) back cm)
        have s3 := Step.of_set s2.inn S 7 (.int .i64 (m : Int))
        have s := (HX.out.1.trans (sd.trans (s1.trans (s2.trans s3)))).mono (T2 := UndoT) (by rintro r (e | e | e | e | e); exact e; exact e.elim; exact .inr (e.trans HH.out.rS); exact .inr (e.trans HH.out.rS); exact .inr (e.trans HH.out.rS))
        have hgS : gv ≠ S := fun e => by have h1 := HH.out.rS; rw [← e, HH.out.rv] at h1; cases h1
        have hvd : BoxF w3 gv n (fun u => .int .i64 (valOf (tr.take m) u)) 3 := by
          have h1 : BoxF wd gv n (fun u => .int .i64 (valU tr ((tr.drop m).take i) u)) 3 := HX.out.2.2.to (by rw [hwd.out]; rfl)
          rw [← hw3]
          refine (((h1.other hgS 5 _).other hgS 6 _).other hgS 7 _).congr fun j _ => ?_
          have hfull : (tr.drop m).take i = tr.drop m := List.take_of_length_le (by rw [List.length_drop]; have := hN.out; have := hd.out; omega)
          rw [hfull, valU_all HT.out]
        rw [hw3] at s
        refine ⟨rfl, _, _, s, HH.out.undone HB0.out s rfl rfl (by have := hN.out; omega) (by have := hL.out; omega) hvd ?_⟩
        rw [← hw3]
        exact hbd3
      clear hbd hbd1 hbd2 hbd3 hbS HQ HX
      rw [hw3]
      rw [hQ.out] at HFIN
      go_wp2_with fail
      exact bodyPost_ret (v := .tuple #[]) (by simp [results, Try.results35, go_sem]) rfl HFIN.out
end
end Go.Proofs.Ytkeagjphddcjeaa
