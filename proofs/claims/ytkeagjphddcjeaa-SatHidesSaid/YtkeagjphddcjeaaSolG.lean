/-
  The solver: propagate. Helper text; the conditions are those typed.
-/
import Derived.Test.YtkeagjphddcjeaaSolP
import Derived.Deep.LoopGhost
import Derived.Deep.Cut
import Derived.Deep.CutRange
import Derived.Deep.CutBlock
import Derived.IntWalk
namespace Go.Proofs.Ytkeagjphddcjeaa
set_option linter.unusedVariables false
set_option linter.unusedSimpArgs false
open Go.RowKit Go.Maps Sat

/-- What propagate has come to. -/
def PropOut (role : Nat → Role) (w : World) (B S M gv gl gr : Nat) (vc vm : Value) (n : Nat) (cv : Nat → Value) (orig : List Cl) (gs : List Int) (cs : List Cl) (tr : List En) (mk : List Nat) (head' : Nat) (cs' : List Cl) (tr' : List En) (w' : World) : Prop :=
  ∃ role' vt' wo' wl', Moved role w role' w' ∧ SolIn w' B role' S M gv gl gr vc vt' vm head' n cv wo' wl' cs' tr' mk ∧ Tr n orig gs cs' tr' mk ∧ Cs n orig cs' ∧ Wl cs' wl' ∧ Far n mk cs tr cs' tr'
def PropPost (role : Nat → Role) (w : World) (B S M gv gl gr : Nat) (vc vm : Value) (n : Nat) (cv : Nat → Value) (orig : List Cl) (gs : List Int) (cs : List Cl) (tr : List En) (mk : List Nat) (e : Ending) (w' : World) : Prop :=
  ∃ (r : Int) (head' : Nat) (cs' : List Cl) (tr' : List En), e = .returned (.int .i64 r) ∧ PropOut role w B S M gv gl gr vc vm n cv orig gs cs tr mk head' cs' tr' w' ∧
    ∃ k, Wat cs' tr' k ∧ (∀ m ∈ mk, m ≤ k) ∧ k ≤ tr'.length ∧ ((r = -1 ∧ k = tr'.length ∧ head' = tr'.length) ∨ ∃ (bad : Nat) (c : Cl), r = (bad : Int) ∧ cs'[bad]? = some c ∧ (∀ x ∈ c, ∃ q, At tr' q (-x)) ∧ ∃ x ∈ c, At tr' k (-x))

section
variable {w w' : World} {B : Nat} {role role' : Nat → Role} {S M gv gl gr : Nat} {vc vt vm : Value} {head n : Nat} {cv : Nat → Value} {wo : Int → Option Value} {wl : Int → List Nat} {orig : List Cl} {gs : List Int} {cs : List Cl} {tr : List En} {mk : List Nat} {T : Role → Prop}

/-- In the loop of the watchers. -/
def WInv (role : Nat → Role) (w : World) (B S M gv gl gr : Nat) (vc vm : Value) (n : Nat) (cv : Nat → Value) (orig : List Cl) (gs : List Int) (cs : List Cl) (tr : List En) (mk : List Nat) (h0 : Nat) (gone : Int) (list : List Nat) (vlist vk : Value) (i : Nat) (wr : World) : Prop :=
  ∃ role' vt' wo' wl' cs' tr' kept, Moved role w role' wr ∧ SolIn wr B role' S M gv gl gr vc vt' vm (h0 + 1) n cv wo' wl' cs' tr' mk ∧ KeptAt wr B role' vk kept ∧ PJ n orig gs mk h0 gone list cs' tr' wl' kept i ∧ Far n mk cs tr cs' tr' ∧ (wo' gone).getD (.slice none 0 0) = vlist ∧ wl' gone = list

set_option maxHeartbeats 4000000 in
set_option maxRecDepth 100000 in
theorem prop_c (h : SolIn w B role S M gv gl gr vc vt vm head n cv wo wl cs tr mk) (hB : B ≤ w.heap.size) (hn : n ≤ 1000) (hT : Tr n orig gs cs tr mk) (hC : Cs n orig cs) (hW : Wat cs tr head) (hM : ∀ m ∈ mk, m ≤ head) (hh : head ≤ tr.length) (hL : Wl cs wl) (hcs : cs.length ≤ 4398046511104) :
    Calls Try.prog 33 #[.pointer (some ⟨S, 0, none⟩)] w (PropPost role w B S M gv gl gr vc vm n cv orig gs cs tr mk) := by
  obtain ⟨Q, hQ⟩ : ∃ Q, PropPost role w B S M gv gl gr vc vm n cv orig gs cs tr mk = Q := ⟨_, rfl⟩
  rw [hQ]
  replace hQ := Lib.hid hQ
  have HX0 : Hid (∃ head' cs' tr', PropOut role w B S M gv gl gr vc vm n cv orig gs cs tr mk head' cs' tr' w ∧ Wat cs' tr' head' ∧ (∀ m ∈ mk, m ≤ head') ∧ head' ≤ tr'.length ∧ n + 1 ≤ head' + (n + 1 - head)) :=
    ⟨head, cs, tr, ⟨role, vt, wo, wl, Moved.of_below h.hi (Below.refl _ _), h, hT, hC, hL, Far.refl n mk cs tr⟩, hW, hM, hh, by have := tr_len hT; omega⟩
  have HB0 := Lib.hid hB
  clear h hB hT hC hW hM hh hL
  go_enter Try.func33, Try.ntmps33
  go_wp2_with fail
  go_loopg [] (n + 1 - head) (fun gf wr => Hid (∃ head' cs' tr', PropOut role w B S M gv gl gr vc vm n cv orig gs cs tr mk head' cs' tr' wr ∧ Wat cs' tr' head' ∧ (∀ m ∈ mk, m ≤ head') ∧ head' ≤ tr'.length ∧ n + 1 ≤ head' + gf))
  case atStart => exact HX0
  case round =>
    clear HX0
    obtain ⟨gO, rfl⟩ : ∃ x : Nat, x = gk := ⟨_, rfl⟩
    obtain ⟨h0, cs1, tr1, ⟨role1, vt1, wo1, wl1, hmv, hsol, hT, hC, hL, hF⟩, hW, hM, hh, hgf⟩ := hrel.out
    clear hrel
    have HMV := Lib.hid hmv
    have HS := Lib.hid hsol
    have HT := Lib.hid hT
    have HC := Lib.hid hC
    have HL := Lib.hid hL
    have HF := Lib.hid hF
    have HW := Lib.hid hW
    have HM := Lib.hid hM
    have hlen := tr_len hT
    obtain ⟨ta, tc, hvt⟩ := ownsRow_slice hsol.trow
    subst hvt
    clear hmv hsol hT hC hL hF hW hM
    have HQ : Hid (∀ W : World, W.heap[S]? = wr.heap[S]? → W.cell? ⟨S, 5, none⟩ = some (.slice ta tr1.length tc) ∧ W.cell? ⟨S, 7, none⟩ = some (.int .i64 (h0 : Int)) ∧ W.cell? ⟨S, 1, none⟩ = some (.map (some M))) := fun W hW => ⟨(HS.out.box.to hW).cell (j := 5) rfl, (HS.out.box.to hW).cell (j := 7) rfl, (HS.out.box.to hW).cell (j := 1) rfl⟩
    by_cases hlt : h0 < tr1.length
    · have hltd : decide ((h0 : Int) < (tr1.length : Int)) = true := by simp; omega
      obtain ⟨gt, tc', hte, htc, _⟩ := (ownsRow_form HS.out.trow).resolve_left (fun h => by have := h.2; omega)
      obtain ⟨rfl, rfl⟩ : ta = some ⟨gt, 0, none⟩ ∧ tc = tc' := by injection hte with e1 _ e2; exact ⟨e1, e2⟩
      clear hte
      obtain ⟨gone, hg⟩ : ∃ gone : Int, tr1[h0].lit = -gone := ⟨-tr1[h0].lit, by omega⟩
      have HAT : Hid (At tr1 h0 (-gone)) := ⟨tr1[h0], List.getElem?_eq_getElem hlt, hg⟩
      have hok : Lok n gone := by
        have := (HT.out.ok _ (List.getElem_mem hlt)).neg
        rw [hg, Int.neg_neg] at this
        exact this
      have HC0 : Hid (∀ W : World, W.heap = wr.heap → W.cell? ⟨gt, h0, none⟩ = some (.int .i64 (-gone))) := fun W hW => by
        have h1 := ownsRow_cell (ownsRow_to HS.out.trow (w' := W) fun g _ => by rw [hW]) (j := h0) (v := .int .i64 tr1[h0].lit) (by unfold intsI; simp [hlt])
        rw [hg] at h1
        exact h1
      have hgb : -1000 ≤ gone ∧ gone ≤ 1000 := by have := hok.2; omega
      obtain ⟨hgb1, hgb2⟩ := hgb
      obtain ⟨N, hN⟩ : ∃ N, N = tr1.length := ⟨_, rfl⟩
      rw [← hN] at HQ hlt hlen hltd hh htc
      have hlt1 : (h0 : Int) < (N : Int) := by omega
      have hNtc : (N : Int) ≤ (tc : Int) := by omega
      replace hN := Lib.hid hN
      replace hok := Lib.hid hok
      clear hg
      go_upto_region 1 with fail
      have q5 := (HQ.out wr rfl).1
      have q7 := (HQ.out wr rfl).2.1
      go_quiet (fail)
      obtain ⟨nA, rfl⟩ : ∃ x : Nat, x = nq := ⟨_, rfl⟩
      go_wp2_with fail
      go_step3
      go_upto_region 2 with fail
      have q0 := HC0.out wr rfl
      go_quiet (fail)
      have f7 := (HS.out.box.to (W' := wr) rfl).frozen 7
      go_upto_region 4 with fail
      generalize nA + nq = nz
      obtain ⟨w3, hw3⟩ : ∃ w3 : World, (wr.drewN nz).setCell ⟨S, 7, none⟩ (.int .i64 ((h0 : Int) + 1)) = w3 := ⟨_, rfl⟩
      rw [hw3]
      have HS3 : Hid (Moved role w role1 w3 ∧ SolIn w3 B role1 S M gv gl gr vc (.slice (some ⟨gt, 0, none⟩) tr1.length tc) vm (h0 + 1) n cv wo1 wl1 cs1 tr1 mk) := by
        have sd : Step (fun _ => False) role1 wr role1 (wr.drewN nz) := Step.of_below HS.out.hi (below_dr (Below.refl _ _) nz)
        have s1 := Step.of_set sd.inn S 7 (.int .i64 ((h0 : Int) + 1))
        have s2 := (sd.trans s1).mono (T2 := fun r => r = .box) (by rintro r (e | e); exact e.elim; exact e.trans HS.out.rS)
        rw [hw3] at s2
        refine ⟨HMV.out.trans (s2.mono fun r h => by rw [h]; simp), HS.out.headed (Nat.le_trans HB0.out HMV.out.size) s2 ?_⟩
        rw [← hw3]
        have hb : BoxN (wr.drewN nz) S _ 54 := HS.out.box.to rfl
        have := hb.set 7 (.int .i64 ((h0 : Int) + 1))
        exact this
      clear hw3 HS HMV q0 q5 q7 f7 HQ HC0
      have hLEN : Hid ((wl1 gone).length ≤ 4398046511104) := by
        have := HL.out.len gone
        rw [HF.out.len] at this
        exact Nat.le_trans this hcs
      obtain ⟨list, hlist⟩ : ∃ list, list = wl1 gone := ⟨_, rfl⟩
      have hlook := HS3.out.2.look (W := w3) rfl hok.out hn
      have HROW : Hid (RowZ w3 B ((wo1 gone).getD (.slice none 0 0)) (natsI list)) := by rw [hlist]; exact HS3.out.2.wlist gone
      obtain ⟨vlist, hvl⟩ : ∃ v, (wo1 gone).getD (.slice none 0 0) = v := ⟨_, rfl⟩
      rw [hvl] at HROW hlook
      obtain ⟨lb, lc, hvf⟩ : ∃ b c, vlist = .slice b list.length c := by
        rcases HROW.out with h | ⟨a, ha, hx⟩
        · obtain ⟨a, c, h⟩ := ownsRow_slice h
          exact ⟨a, c, by rw [h, natsI_len]⟩
        · have : list = [] := by unfold natsI at hx; simpa using hx
          exact ⟨some a, 0, by rw [ha, this]; rfl⟩
      obtain ⟨L, hLL⟩ : ∃ L, L = list.length := ⟨_, rfl⟩
      rw [← hlist] at hLEN
      rw [← hLL] at hvf hLEN
      subst hvf
      have HPJ : Hid (PJ n orig gs mk h0 gone list cs1 tr1 wl1 [] 0) := by
        rw [hlist]
        exact PJ.start HT.out HC.out HW.out HAT.out HM.out HL.out
      have hb1 := HS3.out.2.box.cell (j := 1) rfl
      replace hvl := Lib.hid hvl
      replace hlist := Lib.hid hlist
      replace hLL := Lib.hid hLL
      go_wp2_with fail
      go_step3
      go_wp2_with fail
      go_loopg [5, 48] L (fun gk v5 v48 wx => ∃ i : Nat, v48 = .int .i64 i ∧ i ≤ L ∧ L ≤ i + gk ∧ Hid (WInv role w B S M gv gl gr vc vm n cv orig gs cs tr mk h0 gone list (.slice lb L lc) v5 i wx))
      case atStart =>
        refine ⟨0, rfl, Nat.zero_le _, by omega, role1, _, wo1, wl1, cs1, tr1, [], HS3.out.1, HS3.out.2, ⟨?_, fun hne => ?_⟩, HPJ.out, HF.out, hvl.out, hlist.out.symm⟩
        · cases hlb : lb with
          | none => exact .inl (World.ownsRow_nil _ _ _ _)
          | some a => exact .inr ⟨a, rfl, rfl⟩
        · cases hlb : lb with
          | none => intro g hg'; cases hg'
          | some a => exact absurd (by rw [hlb]) (hne a)
      case round =>
        clear hlook hb1 HPJ HROW HS3
        obtain ⟨gI, rfl⟩ : ∃ x : Nat, x = gk := ⟨_, rfl⟩
        obtain ⟨i, rfl, hiL, hfi, HW'⟩ := hrel
        obtain ⟨role2, vt2, wo2, wl2, cs2, tr2, kept, hmv2, hsol2, hk2, hpj2, hF2, hvo2, hwl2⟩ := HW'.out
        clear HW'
        have HMV2 := Lib.hid hmv2
        have HS2 := Lib.hid hsol2
        have HK2 := Lib.hid hk2
        have HPJ := Lib.hid hpj2
        have HF2 := Lib.hid hF2
        have HVO := Lib.hid hvo2
        have HWL := Lib.hid hwl2
        clear hmv2 hsol2 hk2 hpj2 hF2 hvo2 hwl2
        have hLb : L ≤ 4398046511104 := hLEN.out
        by_cases hi : i < L
        · have hrz : RowZ wr B (.slice lb L lc) (natsI list) := by
            have := HS2.out.wlist gone
            rw [HVO.out, HWL.out] at this
            exact this
          have hil : i < list.length := by rw [← hLL.out]; exact hi
          have hown : wr.ownsRow B 3 1 (.slice lb L lc) L (natsI list) := by
            rcases hrz with h | ⟨a, ha, hx⟩
            · rw [natsI_len, ← hLL.out] at h; exact h
            · unfold natsI at hx
              simp at hx
              rw [hx] at hil
              cases hil
          obtain ⟨gw, lc', hte, hlc, _⟩ := (ownsRow_form hown).resolve_left (fun h => by have := h.2; omega)
          obtain ⟨rfl, rfl⟩ : lb = some ⟨gw, 0, none⟩ ∧ lc = lc' := by injection hte with e1 _ e2; exact ⟨e1, e2⟩
          clear hte hrz
          obtain ⟨m, hm⟩ : ∃ m, list[i] = m := ⟨_, rfl⟩
          have hm' : list[i]? = some m := by rw [List.getElem?_eq_getElem hil, hm]
          have c0 : wr.cell? ⟨gw, i, none⟩ = some (.int .i64 (m : Int)) := ownsRow_cell hown (by unfold natsI; simp [hm'])
          clear hown
          obtain ⟨a, b, t, hc, hab, hne, hmk, hmem⟩ := HPJ.out.mem hm'
          have hmc := (List.getElem?_eq_some_iff.1 hc).1
          obtain ⟨gcr, ccr, hvc, hcr1, _⟩ := (ownsRow_form HS2.out.crow).resolve_left (fun h => by have := h.2; omega)
          have hcr := HS2.out.crow
          rw [hvc] at hcr
          have c1 : wr.cell? ⟨gcr, m, none⟩ = some (cv m) := ownsRow_cell hcr (by simp [hmc])
          have hcl := HS2.out.clause m _ hc
          obtain ⟨gc, ck, hcv, hck, _⟩ := (ownsRow_form hcl).resolve_left (fun h => by have := h.2; simp at this)
          rw [hcv] at hcl c1
          have c2 : wr.cell? ⟨gc, 0, none⟩ = some (.int .i64 a) := ownsRow_cell hcl (by rfl)
          have c3 : wr.cell? ⟨gc, 1, none⟩ = some (.int .i64 b) := ownsRow_cell hcl (by rfl)
          have bc := HS2.out.box.cell (j := 0) rfl
          rw [hvc] at bc
          obtain ⟨Z, hK⟩ : ∃ Z, (a :: b :: t).length = Z := ⟨_, rfl⟩
          obtain ⟨C, hCC⟩ : ∃ C, cs2.length = C := ⟨_, rfl⟩
          have hK2 : 2 ≤ Z := by rw [← hK]; simp
          have hZb : Z ≤ 1000 := by rw [← hK]; exact Nat.le_trans (clause_len HPJ.out.cl hmem) hn
          rw [hK] at hcv hck hcl c1
          rw [hCC] at bc hcr hmc hcr1
          have hmC : (m : Int) < (C : Int) := by omega
          have hK2i : (2 : Int) ≤ (Z : Int) := by omega
          have hckK : (Z : Int) ≤ (ck : Int) := by omega
          have hi1 : (i : Int) < (L : Int) := by omega
          have hZ0 : 0 < Z := by omega
          have hZ1 : 1 < Z := by omega
          have HCV := Lib.hid hcv
          have HCL := Lib.hid hcl
          have HMI := Lib.hid hm'
          have HC2 := Lib.hid hc
          have HVC := Lib.hid hvc
          have HKK := Lib.hid hK
          have HCCC := Lib.hid hCC
          have HMK := Lib.hid hmk
          clear hcr hcv hcl hm' hm hc hvc hK hCC hmk hmem hcr1 hck
          have HAB := Lib.hid hab
          clear hab hne
          go_upto_if 69 with fail
          go_cut [] from 49 to 161 (fun wx => Hid (∃ (a : Int) (t : Cl) (cs3 : List Cl), cs3.length = C ∧ cs3[m]? = some (a :: gone :: t) ∧ t.length + 2 = Z ∧ Moved role w role2 wx ∧ SolIn wx B role2 S M gv gl gr vc vt2 vm (h0 + 1) n cv wo2 wl2 cs3 tr2 mk ∧ KeptAt wx B role2 u5 kept ∧ PJ n orig gs mk h0 gone list cs3 tr2 wl2 kept i ∧ Far n mk cs tr cs3 tr2))
          case first =>
            by_cases hag : a = gone
            · have hb1 : (a == gone) = true := by simp [hag]
              have hagH := Lib.hid hag
              clear hag
              have HCELL : Hid (∀ W : World, W.heap[gc]? = wr.heap[gc]? → W.cell? ⟨gc, 0, none⟩ = some (.int .i64 a) ∧ W.cell? ⟨gc, 1, none⟩ = some (.int .i64 b)) := fun W hW => ⟨cell_blk hW c2, cell_blk hW c3⟩
              go_upto_region 11 with fail
              refine Two.wp_region_ord2 (fun W => W.heap[gc]? = wr.heap[gc]?) (fun _ => True) 9 11 [(.qb, 0), (.qb, 1), (.qb, 2), (.qb, 3), (.qa, 4), (.qb, 5), (.qb, 6), (.qa, 7), (.qb, 8), (.l1, 9), (.qb, 10), (.l2, 11)] (by kernel_rfl) (by kernel_rfl) (fun _ _ d _ _ h => by cases d <;> exact h) rfl trivial ?_
              intro wd hwd hS hS2
              simp only [Two.ordOps2, List.map_cons, List.map_nil, Array.getD_eq_getD_getElem?, List.getElem?_toArray, List.getElem?_cons_succ, List.getElem?_cons_zero, Option.getD_some]
              iterate 4 (refine Two.step_qb rfl _ (fun w' hS' K hK => (by clear hS'; go_simp; exact hK)) (fun K hK => ?_); go_simp; refine hK _ ?_; clear hK K)
              refine Two.step_qa rfl _ (fun w' hS' K hK => (by have q1 := (HCELL.out w' hS').2; clear hS'; go_simp; exact hK)) (fun K hK => ?_); go_simp; refine hK _ ?_; clear hK K
              iterate 2 (refine Two.step_qb rfl _ (fun w' hS' K hK => (by clear hS'; go_simp; exact hK)) (fun K hK => ?_); go_simp; refine hK _ ?_; clear hK K)
              refine Two.step_qa rfl _ (fun w' hS' K hK => (by have q1 := (HCELL.out w' hS').1; clear hS'; go_simp; exact hK)) (fun K hK => ?_); go_simp; refine hK _ ?_; clear hK K
              refine Two.step_qb rfl _ (fun w' hS' K hK => (by clear hS'; go_simp; exact hK)) (fun K hK => ?_); go_simp; refine hK _ ?_; clear hK K
              have hrowd : wd.ownsRow B 3 1 (.slice (some ⟨gc, 0, none⟩) Z ck) Z (intsI (a :: b :: t)) := ownsRow_to HCL.out fun g hg => by cases hg; exact hS
              have p0 : wd.cell? ⟨gc, 0, none⟩ = some (.int .i64 a) := (HCELL.out wd hS).1
              have p1 := ownsRow_frozen hrowd 0
              refine Two.step_l1 rfl (fun K hK => ?_)
              go_simp
              refine hK _ _ ⟨trivial, ?_⟩
              clear hK K p0 p1
              refine Two.step_qb rfl _ (fun w' hS' K hK => (by clear hS'; go_simp; exact hK)) (fun K hK => ?_); go_simp; refine hK _ ?_; clear hK K
              have hrowd1 := ownsRow_set hrowd hZ0 (.int .i64 b)
              have p0 : (wd.setCell ⟨gc, 0, none⟩ (.int .i64 b)).cell? ⟨gc, 1, none⟩ = some (.int .i64 b) := ownsRow_cell hrowd1 (by rfl)
              have p1 := ownsRow_frozen hrowd1 1
              refine Two.step_l2 rfl (fun K hK => ?_)
              go_simp
              refine hK _ _ ?_
              clear hK K p0 p1 hrowd hrowd1
              refine Two.step_nil ?_
              obtain ⟨wz, hwz⟩ : ∃ wz, (wd.setCell ⟨gc, 0, none⟩ (.int .i64 b)).setCell ⟨gc, 1, none⟩ (.int .i64 a) = wz := ⟨_, rfl⟩
              have HZ : Hid (∃ (a : Int) (t : Cl) (cs3 : List Cl), cs3.length = C ∧ cs3[m]? = some (a :: gone :: t) ∧ t.length + 2 = Z ∧ Moved role w role2 wz ∧ SolIn wz B role2 S M gv gl gr vc vt2 vm (h0 + 1) n cv wo2 wl2 cs3 tr2 mk ∧ KeptAt wz B role2 u5 kept ∧ PJ n orig gs mk h0 gone list cs3 tr2 wl2 kept i ∧ Far n mk cs tr cs3 tr2) := by
                have s0 : Step (fun _ => False) role2 wr role2 wd := by
                  rw [hwd.out]
                  exact Step.of_below HS2.out.hi (below_dr1 (Below.refl _ _))
                have hsd := HS2.out.keep s0 (fun _ h => h.elim) (Nat.le_trans HB0.out HMV2.out.size)
                have hZl : (a :: b :: t).length = Z := HKK.out
                obtain ⟨st, sw⟩ := hsd.cput HC2.out (gc := gc) (ck := ck) (by rw [HCV.out, hZl]) (i := 0) (j := 1) (by rw [hZl]; exact hZ0) (by rw [hZl]; exact hZ1) b a
                rw [hwz] at st sw
                have s1 := s0.trans st
                have hset : ((a :: b :: t).set 0 b).set 1 a = b :: gone :: t := by rw [hagH.out]; rfl
                rw [hset] at sw
                have hpt := HPJ.out.turn HC2.out
                rw [show b :: a :: t = b :: gone :: t by rw [hagH.out]] at hpt
                exact ⟨b, t, _, by rw [List.length_set]; exact HCCC.out, by rw [List.getElem?_set_self (List.getElem?_eq_some_iff.1 HC2.out).1], by rw [← hZl]; rfl, HMV2.out.trans (s1.mono (by rintro r (e | e); exact e.elim; rw [e]; simp)), sw, HK2.out.to s1 (by rintro (e | e); exact e; cases e), hpt, HF2.out.perm HC2.out (by rw [hagH.out]; intro x hx; simp only [List.mem_cons] at hx ⊢; rcases hx with h | h | h; exact .inr (.inl h); exact .inl h; exact .inr (.inr h))⟩
              rw [hwz]
              clear hwz hwd hS hS2 HCELL
              go_wp2_with fail
              go_meet
              case rel => exact HZ
            · have hb1 : (a == gone) = false := by simp [hag]
              have HZ : Hid (∃ (a : Int) (t : Cl) (cs3 : List Cl), cs3.length = C ∧ cs3[m]? = some (a :: gone :: t) ∧ t.length + 2 = Z ∧ Moved role w role2 wr ∧ SolIn wr B role2 S M gv gl gr vc vt2 vm (h0 + 1) n cv wo2 wl2 cs3 tr2 mk ∧ KeptAt wr B role2 u5 kept ∧ PJ n orig gs mk h0 gone list cs3 tr2 wl2 kept i ∧ Far n mk cs tr cs3 tr2) := by
                have e : b = gone := HAB.out.resolve_left hag
                exact ⟨a, t, cs2, HCCC.out, by rw [HC2.out, e], by rw [← HKK.out]; rfl, HMV2.out, HS2.out, HK2.out, HPJ.out, HF2.out⟩
              clear hag
              go_wp2_with fail
              go_meet
              case rel => exact HZ
          case rest =>
            obtain ⟨a, t, cs3, hC3, hc3, hZ3, hmv3, hsol3, hk3, hpj3, hF3⟩ := hcut.out
            have HMV3 := Lib.hid hmv3
            have HS3 := Lib.hid hsol3
            have HK3 := Lib.hid hk3
            have HPJ3 := Lib.hid hpj3
            have HF3 := Lib.hid hF3
            have HC3 := Lib.hid hc3
            have HZ3 : Hid ((a :: gone :: t).length = Z) := by show t.length + 1 + 1 = Z; omega
            have HB3 : Hid (B ≤ wc.heap.size) := Nat.le_trans HB0.out hmv3.size
            have HLA : Hid (Lok n a) := hpj3.cl.ok _ (List.mem_of_getElem? hc3) a (by simp)
            have HTL : Hid (∀ x ∈ t, Lok n x) := fun x hx => hpj3.cl.ok _ (List.mem_of_getElem? hc3) x (by simp [hx])
            have HCS3 : Hid (cs3.length ≤ 4398046511104) := by rw [hF3.len]; exact hcs
            have HKL : Hid (kept.length ≤ 4398046511104) := by
              have h1 := hpj3.wlOk.len gone
              simp only [if_true, List.length_append] at h1
              have h2 : cs3.length ≤ 4398046511104 := HCS3.out
              show kept.length ≤ 4398046511104
              omega
            have HCELL : Hid (∀ W : World, W.heap[gc]? = wc.heap[gc]? → (∀ j x, (a :: gone :: t)[j]? = some x → W.cell? ⟨gc, j, none⟩ = some (.int .i64 x)) ∧ ∀ j, W.frozen? ⟨gc, j, none⟩ = false) := fun W hW => by
              have h1 := hsol3.clause m _ hc3
              rw [HCV.out, show (a :: gone :: t).length = Z from HZ3.out] at h1
              have h2 := ownsRow_to h1 (w' := W) fun g hg => by cases hg; exact hW
              exact ⟨fun j x hx => ownsRow_cell h2 (by unfold intsI; rw [List.getElem?_map, hx]; rfl), fun j => ownsRow_frozen h2 j⟩
            obtain ⟨ka, kc, hu5⟩ := hk3.form
            subst hu5
            obtain ⟨kn, hkn⟩ : ∃ kn, kept.length = kn := ⟨_, rfl⟩
            rw [hkn] at HK3 hk3 ⊢
            replace hkn := Lib.hid hkn
            have hcase := isV_cases hpj3.trl HLA.out
            have HIS : Hid (∀ W q, W = wc.drewN q → ∀ x, Lok n x → Calls Try.prog 31 #[.pointer (some ⟨S, 0, none⟩), .int .i64 x] W fun e w' => e = .returned (.int .i64 (isV tr2 x)) ∧ ∃ q, w' = W.drewN q) := fun W q hW x hx => by
              rw [hW]
              exact is_c (hsol3.below HB3.out (below_dr (Below.refl _ _) q)) hx hn
            clear hcut hC3 hc3 hZ3 hmv3 hsol3 hk3 hpj3 hF3 c0 c1 c2 c3 bc HCL HKK HC2 HCCC HMK HAB HPJ HMV2 HS2 HK2 HF2
            have c0 := (HCELL.out wc rfl).1 0 a rfl
            have HI0 := Lib.hid (HIS.out wc 0 rfl a HLA.out)
            by_cases hpos : isV tr2 a = 1
            · have HAT2 : Hid (∃ q, At tr2 q a) := by
                rcases hcase with ⟨_, h⟩ | ⟨h, _⟩ | ⟨h, _⟩
                · exact h
                · rw [hpos] at h; cases h
                · rw [hpos] at h; cases h
              rw [hpos] at HI0
              clear hpos hcase
              go_upto_region 13 with (go_at_call 31; refine HI0.out.mono ?_; rintro e w1 ⟨rfl, q, rfl⟩)
              obtain ⟨w4, hw4⟩ : ∃ w4, wc.drewN q = w4 := ⟨_, rfl⟩
              have HS4 : Hid (Moved role w role2 w4 ∧ SolIn w4 B role2 S M gv gl gr vc vt2 vm (h0 + 1) n cv wo2 wl2 cs3 tr2 mk ∧ KeptAt w4 B role2 (.slice ka kn kc) kept ∧ B ≤ w4.heap.size) := by
                rw [← hw4]
                have hb : Below wc.heap.size wc (wc.drewN q) := below_dr (Below.refl _ _) q
                have s0 := Step.of_below HS3.out.hi hb
                exact ⟨HMV3.out.trans (s0.mono fun _ h => h.elim), HS3.out.below HB3.out hb, HK3.out.to s0 (fun h => h), HB3.out⟩
              rw [hw4]
              clear hw4 c0
              obtain ⟨WA, hWA⟩ : ∃ WA, w4.alloc (.cells #[.int .i64 (m : Int)] 3) = WA := ⟨_, rfl⟩
              have HWA : Hid (Below w4.heap.size w4 WA ∧ BoxN WA w4.heap.size [.int .i64 (m : Int)] 3 ∧ RowZ WA B (.slice ka kn kc) (natsI kept) ∧ B ≤ WA.heap.size) := by
                rw [← hWA]
                have hb := below1 w4 (.cells #[.int .i64 (m : Int)] 3)
                exact ⟨hb, boxN_alloc _ _ _, (HS4.out.2.2.1.to (Step.of_below HS4.out.2.1.hi hb) (fun h => h)).1, Nat.le_trans HS4.out.2.2.2 hb.size⟩
              go_wp2_with (at_builtin; refine wpList_append_z rfl (.tmp 86) (.tmp 88) rfl rfl HWA.out.2.2.1 rfl ⟨w4.heap.size, 0, none⟩ 1 1 [.int .i64 (m : Int)] rfl rfl (World.news_of_block (cs := #[.int .i64 (m : Int)]) (t := 3) (fr := (0, 0)) HWA.out.2.1) (by simp [Value.oneCell']) (by omega) (by rw [natsI_len]; have h1 : kept.length ≤ 4398046511104 := HKL.out; omega) HWA.out.2.2.2 ?_; intro g9 cap9 w9 row9 hown9 hgrow9 hat9 hlt9 hrow9)
              obtain ⟨role5, k1, k2, k3⟩ := kept_grown HS4.out.1 HS4.out.2.1 HS4.out.2.2.2 HS4.out.2.2.1 HWA.out.1 hown9 hgrow9 hat9 hlt9 hrow9
              have HEND : Hid (WInv role w B S M gv gl gr vc vm n cv orig gs cs tr mk h0 gone list (.slice (some ⟨gw, 0, none⟩) L lc) (.slice (some ⟨g9, 0, none⟩) ((natsI kept).length + 1) cap9) (i + 1) w9) := by
                obtain ⟨qa, hqa⟩ := HAT2.out
                exact ⟨role5, vt2, wo2, wl2, cs3, tr2, kept ++ [m], k1, k2, k3, HPJ3.out.keep HMI.out HC3.out hqa, HF3.out, HVO.out, HWL.out⟩
              clear hown9 hgrow9 hat9 hlt9 hrow9 k1 k2 k3
              go_roundg (gI - 1)
              case measure => omega
              case rel => exact ⟨i + 1, by go_num, by omega, by omega, HEND.out⟩
            · have hv0 : isV tr2 a ≤ 0 := by
                have := @isV_lt tr2 a
                omega
              have hvr : -1 ≤ isV tr2 a := isV_lt.1
              have HCASE := Lib.hid hcase
              have HNP := Lib.hid hpos
              obtain ⟨va, hva⟩ : ∃ va, isV tr2 a = va := ⟨_, rfl⟩
              rw [hva] at HI0 hv0 hvr
              replace hva := Lib.hid hva
              clear hcase hpos
              go_upto_region 14 with (go_at_call 31; refine HI0.out.mono ?_; rintro e w1 ⟨rfl, q, rfl⟩)
              clear c0 HI0
              go_wp2_with fail
              go_loopg [9] Z (fun gj v9 wx => ∃ (k q : Nat), v9 = .int .i64 (k : Int) ∧ 2 ≤ k ∧ k ≤ Z ∧ Z ≤ k + gj ∧ wx = wc.drewN q ∧ Hid (∀ j x, 2 ≤ j → j < k → (a :: gone :: t)[j]? = some x → ∃ q, At tr2 q (-x)))
              case atStart => exact ⟨2, q, rfl, Nat.le_refl _, hZ1, by omega, rfl, fun j x h1 h2 => by omega⟩
              case round =>
                obtain ⟨gJ, rfl⟩ : ∃ x : Nat, x = gk := ⟨_, rfl⟩
                obtain ⟨k, q2, rfl, hk2, hkZ, hgj, hwr, HFALSE⟩ := hrel
                obtain ⟨w5, hw5⟩ : ∃ w5, wr = w5 := ⟨_, rfl⟩
                rw [hw5]
                have HS5 : Hid (Below wc.heap.size wc w5 ∧ Moved role w role2 w5 ∧ SolIn w5 B role2 S M gv gl gr vc vt2 vm (h0 + 1) n cv wo2 wl2 cs3 tr2 mk ∧ KeptAt w5 B role2 (.slice ka kn kc) kept ∧ B ≤ w5.heap.size ∧ w5.heap[gc]? = wc.heap[gc]?) := by
                  rw [← hw5, hwr]
                  have hb : Below wc.heap.size wc (wc.drewN q2) := below_dr (Below.refl _ _) q2
                  have s0 := Step.of_below HS3.out.hi hb
                  exact ⟨hb, HMV3.out.trans (s0.mono fun _ h => h.elim), HS3.out.below HB3.out hb, HK3.out.to s0 (fun h => h), HB3.out, rfl⟩
                rw [hw5] at hwr
                clear hw5
                by_cases hkz : k < Z
                · have hkl : k < (a :: gone :: t).length := by have h1 : (a :: gone :: t).length = Z := HZ3.out; omega
                  obtain ⟨x, hx⟩ : ∃ x, (a :: gone :: t)[k] = x := ⟨_, rfl⟩
                  have hx' : (a :: gone :: t)[k]? = some x := by rw [List.getElem?_eq_getElem hkl, hx]
                  have HXM : Hid (x ∈ a :: gone :: t) := List.mem_of_getElem? hx'
                  have HLX : Hid (Lok n x) := HPJ3.out.cl.ok _ (List.mem_of_getElem? HC3.out) x HXM.out
                  have c0 := (HCELL.out w5 HS5.out.2.2.2.2.2).1 k x hx'
                  have HI := Lib.hid (HIS.out w5 q2 hwr x HLX.out)
                  have hk1 : (k : Int) < (Z : Int) := by omega
                  have HX' := Lib.hid hx'
                  have HWR := Lib.hid hwr
                  clear hx hx' hkl hwr
                  by_cases hneg : isV tr2 x = -1
                  · have HFX : Hid (∃ q, At tr2 q (-x)) := by
                      rcases isV_cases HPJ3.out.trl HLX.out with ⟨h, _⟩ | ⟨_, h⟩ | ⟨h, _⟩
                      · rw [hneg] at h; cases h
                      · exact h
                      · rw [hneg] at h; cases h
                    rw [hneg] at HI
                    clear hneg
                    have HNEXT : Hid (∀ j y, 2 ≤ j → j < k + 1 → (a :: gone :: t)[j]? = some y → ∃ q, At tr2 q (-y)) := fun j y h1 h2 h3 => by
                      by_cases e : j = k
                      · subst e
                        have h4 := HX'.out
                        rw [h4] at h3
                        cases h3
                        exact HFX.out
                      · exact HFALSE.out j y h1 (by omega) h3
                    go_wp2_with (go_at_call 31; refine HI.out.mono ?_; rintro e w1 ⟨rfl, q3, rfl⟩)
                    go_roundg (gJ - 1)
                    case measure => omega
                    case rel => exact ⟨k + 1, q2 + q3, by go_num, by omega, by omega, by omega, (by have h1 := HWR.out; rw [h1, World.drewN_drewN]), HNEXT.out⟩
                  · have hvx : 0 ≤ isV tr2 x := by
                      have := @isV_lt tr2 x
                      omega
                    have HNO : Hid (∀ q, ¬ At tr2 q (-x)) := isV_no HPJ3.out.trl HLX.out hneg
                    obtain ⟨vx, hvxe⟩ : ∃ vx, isV tr2 x = vx := ⟨_, rfl⟩
                    rw [hvxe] at HI hvx
                    replace hvxe := Lib.hid hvxe
                    have HXT : Hid (x ∈ t) := by
                      obtain ⟨k', rfl⟩ : ∃ k', k = k' + 2 := ⟨k - 2, by omega⟩
                      have h1 := HX'.out
                      simp only [List.getElem?_cons_succ] at h1
                      exact List.mem_of_getElem? h1
                    clear hneg
                    go_upto_region 18 with (go_at_call 31; refine HI.out.mono ?_; rintro e w1 ⟨rfl, q3, rfl⟩)
                    obtain ⟨w6, hw6⟩ : ∃ w6, w5.drewN q3 = w6 := ⟨_, rfl⟩
                    have HS6 : Hid (Moved role w role2 w6 ∧ SolIn w6 B role2 S M gv gl gr vc vt2 vm (h0 + 1) n cv wo2 wl2 cs3 tr2 mk ∧ KeptAt w6 B role2 (.slice ka kn kc) kept ∧ B ≤ w6.heap.size) := by
                      rw [← hw6]
                      have hb : Below w5.heap.size w5 (w5.drewN q3) := below_dr (Below.refl _ _) q3
                      have s0 := Step.of_below HS5.out.2.2.1.hi hb
                      exact ⟨HS5.out.2.1.trans (s0.mono fun _ h => h.elim), HS5.out.2.2.1.below HS5.out.2.2.2.2.1 hb, HS5.out.2.2.2.1.to s0 (fun h => h), HS5.out.2.2.2.2.1⟩
                    rw [hw6]
                    clear hw6 c0 HI HS5
                    have hrow6 : w6.ownsRow B 3 1 (.slice (some ⟨gc, 0, none⟩) Z ck) Z (intsI (a :: gone :: t)) := by
                      have h1 := HS6.out.2.1.clause m _ HC3.out
                      rw [HCV.out, show (a :: gone :: t).length = Z from HZ3.out] at h1
                      exact h1
                    have HROW6 := Lib.hid hrow6
                    clear hrow6
                    have HC6 : Hid (∀ W : World, W.heap[gc]? = w6.heap[gc]? → W.cell? ⟨gc, k, none⟩ = some (.int .i64 x) ∧ W.cell? ⟨gc, 1, none⟩ = some (.int .i64 gone)) := fun W hW => ⟨cell_blk hW (ownsRow_cell HROW6.out (by unfold intsI; rw [List.getElem?_map, HX'.out]; rfl)), cell_blk hW (ownsRow_cell HROW6.out (by rfl))⟩
                    refine Two.wp_region_ord2 (fun W => W.heap[gc]? = w6.heap[gc]?) (fun _ => True) 11 13 [(.qb, 0), (.qb, 1), (.qb, 2), (.qb, 3), (.qb, 4), (.qb, 5), (.qa, 6), (.qb, 7), (.qb, 8), (.qa, 9), (.qb, 10), (.l1, 11), (.qb, 12), (.l2, 13)] (by kernel_rfl) (by kernel_rfl) (fun _ _ d _ _ h => by cases d <;> exact h) rfl trivial ?_
                    intro wd hwd hS hS2
                    simp only [Two.ordOps2, List.map_cons, List.map_nil, Array.getD_eq_getD_getElem?, List.getElem?_toArray, List.getElem?_cons_succ, List.getElem?_cons_zero, Option.getD_some]
                    iterate 6 (refine Two.step_qb rfl _ (fun w' hS' K hK => (by clear hS'; go_simp; exact hK)) (fun K hK => ?_); go_simp; refine hK _ ?_; clear hK K)
                    refine Two.step_qa rfl _ (fun w' hS' K hK => (by have q1 := (HC6.out w' hS').1; clear hS'; go_simp; exact hK)) (fun K hK => ?_); go_simp; refine hK _ ?_; clear hK K
                    iterate 2 (refine Two.step_qb rfl _ (fun w' hS' K hK => (by clear hS'; go_simp; exact hK)) (fun K hK => ?_); go_simp; refine hK _ ?_; clear hK K)
                    refine Two.step_qa rfl _ (fun w' hS' K hK => (by have q1 := (HC6.out w' hS').2; clear hS'; go_simp; exact hK)) (fun K hK => ?_); go_simp; refine hK _ ?_; clear hK K
                    refine Two.step_qb rfl _ (fun w' hS' K hK => (by clear hS'; go_simp; exact hK)) (fun K hK => ?_); go_simp; refine hK _ ?_; clear hK K
                    have HROWD : Hid (wd.ownsRow B 3 1 (.slice (some ⟨gc, 0, none⟩) Z ck) Z (intsI (a :: gone :: t))) := ownsRow_to HROW6.out fun g hg => by cases hg; exact hS
                    have p0 : wd.cell? ⟨gc, 1, none⟩ = some (.int .i64 gone) := (HC6.out wd hS).2
                    have p1 := ownsRow_frozen HROWD.out 1
                    refine Two.step_l1 rfl (fun K hK => ?_)
                    go_simp
                    refine hK _ _ ⟨trivial, ?_⟩
                    clear hK K p0 p1
                    refine Two.step_qb rfl _ (fun w' hS' K hK => (by clear hS'; go_simp; exact hK)) (fun K hK => ?_); go_simp; refine hK _ ?_; clear hK K
                    have HROWD1 := Lib.hid (ownsRow_set HROWD.out hZ1 (.int .i64 x))
                    have p0 : (wd.setCell ⟨gc, 1, none⟩ (.int .i64 x)).cell? ⟨gc, k, none⟩ = some (.int .i64 x) := ownsRow_cell HROWD1.out (by
                      rw [List.getElem?_set_ne (by omega)]
                      unfold intsI
                      rw [List.getElem?_map, HX'.out]
                      rfl)
                    have p1 := ownsRow_frozen HROWD1.out k
                    refine Two.step_l2 rfl (fun K hK => ?_)
                    go_simp
                    refine hK _ _ ?_
                    clear hK K p0 p1 HROWD HROWD1
                    refine Two.step_nil ?_
                    obtain ⟨wz, hwz⟩ : ∃ wz, (wd.setCell ⟨gc, 1, none⟩ (.int .i64 x)).setCell ⟨gc, k, none⟩ (.int .i64 gone) = wz := ⟨_, rfl⟩
                    obtain ⟨t', HZZ⟩ : ∃ t', Hid (Moved role w role2 wz ∧ SolIn wz B role2 S M gv gl gr vc vt2 vm (h0 + 1) n cv wo2 wl2 (cs3.set m (a :: x :: t')) tr2 mk ∧ KeptAt wz B role2 (.slice ka kn kc) kept ∧ (a :: x :: t').Perm (a :: gone :: t) ∧ B ≤ wz.heap.size) := by
                      have s0 : Step (fun _ => False) role2 w6 role2 wd := by
                        rw [hwd.out]
                        exact Step.of_below HS6.out.2.1.hi (below_dr1 (Below.refl _ _))
                      have hsd := HS6.out.2.1.keep s0 (fun _ h => h.elim) HS6.out.2.2.2
                      have hZl : (a :: gone :: t).length = Z := HZ3.out
                      obtain ⟨st, sw⟩ := hsd.cput HC3.out (gc := gc) (ck := ck) (by rw [HCV.out, hZl]) (i := 1) (j := k) (by rw [hZl]; exact hZ1) (by rw [hZl]; exact hkz) x gone
                      rw [hwz] at st sw
                      have s1 := s0.trans st
                      obtain ⟨k', rfl⟩ : ∃ k', k = k' + 2 := ⟨k - 2, by omega⟩
                      have hxk := HX'.out
                      simp only [List.getElem?_cons_succ] at hxk
                      refine ⟨t.set k' gone, HS6.out.1.trans (s1.mono (by rintro r (e | e); exact e.elim; rw [e]; simp)), sw, HS6.out.2.2.1.to s1 (by rintro (e | e); exact e; cases e), (perm_set (List.getElem?_eq_some_iff.1 hxk).1 (List.getElem?_eq_some_iff.1 hxk).2).cons a, Nat.le_trans HS6.out.2.2.2 s1.size⟩
                    rw [hwz]
                    clear hwz hwd hS hS2 HC6 HROW6 HS6
                    have HNE : Hid (x ≠ a ∧ x ≠ gone) := clause_ne HPJ3.out.cl (List.mem_of_getElem? HC3.out) HXT.out
                    have HC7 : Hid (∀ W : World, W.heap[S]? = wz.heap[S]? → W.cell? ⟨S, 1, none⟩ = some (.map (some M))) := fun W hW => (HZZ.out.2.1.box.to hW).cell (j := 1) rfl
                    have HC8 : Hid (∀ W : World, W.heap[gc]? = wz.heap[gc]? → W.cell? ⟨gc, 1, none⟩ = some (.int .i64 x)) := fun W hW => cell_blk hW ((HZZ.out.2.1.ccell (by rw [List.getElem?_set_self (List.getElem?_eq_some_iff.1 HC3.out).1]) HCV.out).1 1 x rfl)
                    have HC9 : Hid (∀ W : World, W.heap[M]? = wz.heap[M]? → (Instr.lookup 52 (.map (some M)) (.int .i64 x) false).run Try.prog W = .ok ((wo2 x).getD (.slice none 0 0)) W) := fun W hW => HZZ.out.2.1.look hW HLX.out hn
                    obtain ⟨vw, hvw⟩ : ∃ vw, vw = (wo2 x).getD (.slice none 0 0) := ⟨_, rfl⟩
                    rw [← hvw] at HC9
                    replace hvw := Lib.hid hvw
                    have HWLX : Hid ((natsI (wl2 x)).length ≤ 4398046511104) := by
                      have h1 := HPJ3.out.wlOk.len x
                      simp only [HNE.out.2, if_false] at h1
                      rw [natsI_len]
                      exact Nat.le_trans h1 HCS3.out
                    go_upto_region 19 with fail
                    refine wp_region_ord (fun W => W.heap[S]? = wz.heap[S]? ∧ W.heap[M]? = wz.heap[M]? ∧ W.heap[gc]? = wz.heap[gc]?) 18
                      [(true, 0), (true, 1), (true, 2), (true, 3), (true, 4), (true, 5), (true, 6), (true, 7), (true, 8), (true, 9), (true, 10), (true, 11), (true, 12), (true, 13), (true, 14), (true, 15), (false, 16), (false, 17), (false, 18)] (by kernel_rfl) (by kernel_rfl) (fun _ _ d _ _ h => by cases d <;> exact h) ⟨rfl, rfl, rfl⟩ ?_
                    intro wd hwd hS
                    simp only [ordOps, List.map_cons, List.map_nil, Array.getD_eq_getD_getElem?, List.getElem?_toArray, List.getElem?_cons_succ, List.getElem?_cons_zero, Option.getD_some]
                    iterate 16 (refine wpOrd_q rfl _ (fun w' hS' K hK => (by have q1 := HC7.out w' hS'.1; have q2 := HC9.out w' hS'.2.1; have q3 := HC8.out w' hS'.2.2; clear hS'; go_simp; exact hK)) (fun K hK => ?_); go_simp; refine hK _ ?_; clear hK K)
                    have HWD : Hid (Below wz.heap.size wz wd) := by rw [hwd.out]; exact below_dr1 (Below.refl _ _)
                    obtain ⟨wa, hwa⟩ : ∃ wa, wd.alloc (.cells #[.int .i64 (m : Int)] 3) = wa := ⟨_, rfl⟩
                    have HWA : Hid (Below wz.heap.size wz wa ∧ BoxN wa wd.heap.size [.int .i64 (m : Int)] 3) := by
                      rw [← hwa]
                      exact ⟨HWD.out.trans (below_to (below1 wd _) HWD.out.size), boxN_alloc _ _ _⟩
                    have hgcl : gc < wz.heap.size := HZZ.out.2.1.hi gc (by rw [HZZ.out.2.1.rC m gc (by rw [List.length_set]; exact (List.getElem?_eq_some_iff.1 HC3.out).1) (by rw [HCV.out]; rfl)]; simp)
                    have HAS : wa.heap[S]? = wz.heap[S]? ∧ wa.heap[M]? = wz.heap[M]? ∧ wa.heap[gc]? = wz.heap[gc]? := ⟨HWA.out.1.block S HZZ.out.2.1.box.lt, HWA.out.1.block M HZZ.out.2.1.watch.lt, HWA.out.1.block gc hgcl⟩
                    refine wpOrd_l rfl (fun K hK => ?_)
                    go_simp
                    refine hK _ _ ⟨fun _ => HAS, ?_⟩
                    clear hK K
                    have HROW : Hid (RowZ wa B vw (natsI (wl2 x))) := by
                      rw [hvw.out]
                      refine (HZZ.out.2.1.wlist x).to fun hne b hb => ?_
                      cases hw : wo2 x with
                      | none => rw [hw] at hb; cases hb
                      | some v =>
                        rw [hw] at hb hne
                        exact HWA.out.1.block b (HZZ.out.2.1.hi b (by rw [HZZ.out.2.1.rW x b v hw hne hb]; simp))
                    refine wpOrd_l rfl (fun K hK => ?_)
                    refine wp_append_z (.tmp 129) (.tmp 131) rfl rfl HROW.out rfl ⟨wd.heap.size, 0, none⟩ 1 1 [.int .i64 (m : Int)] rfl rfl (World.news_of_block (cs := #[.int .i64 (m : Int)]) (t := 3) (fr := (0, 0)) HWA.out.2) (by simp [Value.oneCell']) (by omega) (by have h1 : (natsI (wl2 x)).length ≤ 4398046511104 := HWLX.out; omega) (Nat.le_trans HZZ.out.2.2.2.2 HWA.out.1.size) ?_
                    intro g9 cap9 w9 row9 hown9 hgrow9 hat9 hlt9 hrow9
                    rw [hvw.out] at hrow9
                    obtain ⟨w12, role12, hrun12, hst12, hsol12⟩ := HZZ.out.2.1.watchedT HZZ.out.2.2.2.2 HWA.out.1 HLX.out hn hown9 hgrow9 hat9 hlt9 hrow9
                    have HrS : ∀ b R, role2 b = R → R ≠ .wlist x → some b ≠ row9 := fun b R hb hR e => by
                      obtain ⟨h1, h2⟩ := hrow9 b e.symm
                      cases hw : wo2 x with
                      | none => rw [hw] at h1; cases h1
                      | some v =>
                        rw [hw] at h1 h2
                        exact hR (hb.symm.trans (HZZ.out.2.1.rW x b v hw h2 h1))
                    have H9 : w9.heap[S]? = wz.heap[S]? ∧ w9.heap[M]? = wz.heap[M]? ∧ w9.heap[gc]? = wz.heap[gc]? := ⟨(hgrow9.block S (Nat.lt_of_lt_of_le HZZ.out.2.1.box.lt HWA.out.1.size) (HrS S _ HZZ.out.2.1.rS (by simp))).trans HAS.1, (hgrow9.block M (Nat.lt_of_lt_of_le HZZ.out.2.1.watch.lt HWA.out.1.size) (HrS M _ HZZ.out.2.1.rM (by simp))).trans HAS.2.1,
                      (hgrow9.block gc (Nat.lt_of_lt_of_le hgcl HWA.out.1.size) (HrS gc _ (HZZ.out.2.1.rC m gc (by rw [List.length_set]; exact (List.getElem?_eq_some_iff.1 HC3.out).1) (by rw [HCV.out]; rfl)) (by simp))).trans HAS.2.2⟩
                    refine hK _ _ ⟨fun _ => H9, ?_⟩
                    clear hK K
                    refine wpOrd_l rfl (fun K hK => ?_)
                    go_simp
                    refine hK _ _ ⟨fun h => absurd rfl h, ?_⟩
                    clear hK K
                    refine wpOrd_nil ?_
                    have HEND : Hid (WInv role w B S M gv gl gr vc vm n cv orig gs cs tr mk h0 gone list (.slice (some ⟨gw, 0, none⟩) L lc) (.slice ka kn kc) (i + 1) w12) := by
                      refine ⟨role12, vt2, _, _, _, tr2, kept, HZZ.out.1.trans (hst12.mono (by rintro r (e | e) <;> rw [e] <;> simp)), hsol12, HZZ.out.2.2.1.to hst12 (by rintro (e | e) <;> cases e), HPJ3.out.move HMI.out HC3.out HXT.out HZZ.out.2.2.2.1 HNO.out, HF3.out.perm HC3.out (fun y hy => HZZ.out.2.2.2.1.mem_iff.1 hy), ?_, ?_⟩
                      · simp only [HNE.out.2.symm, if_false]
                        exact HVO.out
                      · simp only [HNE.out.2.symm, if_false]
                        exact HWL.out
                    clear hown9 hgrow9 hat9 hlt9 hrow9 hrun12 hst12 hsol12 HrS H9 HROW HAS HC7 HC8 HC9 hgcl hwd hS hwa
                    go_wp2_with fail
                    go_roundg (gI - 1)
                    case measure => omega
                    case rel => exact ⟨i + 1, by go_num, by omega, by omega, HEND.out⟩
                · have hkE : k = Z := by omega
                  have HAF : Hid (∀ x ∈ t, ∃ q, At tr2 q (-x)) := fun x hx => by
                    obtain ⟨j, hj, e⟩ := List.mem_iff_getElem.1 hx
                    have h1 : (a :: gone :: t).length = Z := HZ3.out
                    simp only [List.length_cons] at h1
                    exact HFALSE.out (j + 2) x (by omega) (by omega) (by simp only [List.getElem?_cons_succ]; rw [List.getElem?_eq_getElem hj, e])
                  replace hkE := Lib.hid hkE
                  clear HFALSE hwr
                  obtain ⟨WA, hWA⟩ : ∃ WA, w5.alloc (.cells #[.int .i64 (m : Int)] 3) = WA := ⟨_, rfl⟩
                  have HWA : Hid (Below w5.heap.size w5 WA ∧ BoxN WA w5.heap.size [.int .i64 (m : Int)] 3 ∧ RowZ WA B (.slice ka kn kc) (natsI kept) ∧ B ≤ WA.heap.size) := by
                    rw [← hWA]
                    have hb := below1 w5 (.cells #[.int .i64 (m : Int)] 3)
                    exact ⟨hb, boxN_alloc _ _ _, (HS5.out.2.2.2.1.to (Step.of_below HS5.out.2.2.1.hi hb) (fun h => h)).1, Nat.le_trans HS5.out.2.2.2.2.1 hb.size⟩
                  go_upto_region 21 with (at_builtin; refine wpList_append_z rfl (.tmp 133) (.tmp 135) rfl rfl HWA.out.2.2.1 rfl ⟨w5.heap.size, 0, none⟩ 1 1 [.int .i64 (m : Int)] rfl rfl (World.news_of_block (cs := #[.int .i64 (m : Int)]) (t := 3) (fr := (0, 0)) HWA.out.2.1) (by simp [Value.oneCell']) (by omega) (by rw [natsI_len]; have h1 : kept.length ≤ 4398046511104 := HKL.out; omega) HWA.out.2.2.2 ?_; intro g9 cap9 w9 row9 hown9 hgrow9 hat9 hlt9 hrow9)
                  obtain ⟨role5, k1, k2, k3⟩ := kept_grown HS5.out.2.1 HS5.out.2.2.1 HS5.out.2.2.2.2.1 HS5.out.2.2.2.1 HWA.out.1 hown9 hgrow9 hat9 hlt9 hrow9
                  obtain ⟨kl, hkl⟩ : ∃ kl, (natsI kept).length + 1 = kl := ⟨_, rfl⟩
                  rw [hkl] at k3 ⊢
                  have HS9 : Hid (Moved role w role5 w9 ∧ SolIn w9 B role5 S M gv gl gr vc vt2 vm (h0 + 1) n cv wo2 wl2 cs3 tr2 mk ∧ KeptAt w9 B role5 (.slice (some ⟨g9, 0, none⟩) kl cap9) (kept ++ [m]) ∧ B ≤ w9.heap.size) := ⟨k1, k2, k3, Nat.le_trans HB0.out k1.size⟩
                  have c0 := (k2.ccell HC3.out HCV.out).1 0 a rfl
                  have HI9 : Hid (Calls Try.prog 31 #[.pointer (some ⟨S, 0, none⟩), .int .i64 a] w9 fun e w' => e = .returned (.int .i64 va) ∧ ∃ q, w' = w9.drewN q) := by
                    rw [← hva.out]
                    exact is_c k2 HLA.out hn
                  replace hkl := Lib.hid hkl
                  clear hown9 hgrow9 hat9 hlt9 hrow9 k1 k2 k3 HS5 HWA hWA
                  by_cases hneg : va = -1
                  · subst hneg
                    have HATA : Hid (∃ q, At tr2 q (-a)) := by
                      have h1 : isV tr2 a = -1 := hva.out
                      rcases HCASE.out with ⟨h, _⟩ | ⟨_, h⟩ | ⟨h, _⟩
                      · rw [h1] at h; cases h
                      · exact h
                      · rw [h1] at h; cases h
                    go_upto_region 22 with (go_at_call 31; refine HI9.out.mono ?_; rintro e w1 ⟨rfl, q4, rfl⟩)
                    obtain ⟨w10, hw10⟩ : ∃ w10, w9.drewN q4 = w10 := ⟨_, rfl⟩
                    have HS10 : Hid (Moved role w role5 w10.drew ∧ SolIn w10.drew B role5 S M gv gl gr vc vt2 vm (h0 + 1) n cv wo2 wl2 cs3 tr2 mk ∧ KeptAt w10.drew B role5 (.slice (some ⟨g9, 0, none⟩) kl cap9) (kept ++ [m]) ∧ B ≤ w10.drew.heap.size) := by
                      rw [← hw10]
                      have hb : Below w9.heap.size w9 (w9.drewN q4).drew := below_dr1 (below_dr (Below.refl _ _) q4)
                      have s0 := Step.of_below HS9.out.2.1.hi hb
                      exact ⟨HS9.out.1.trans (s0.mono fun _ h => h.elim), HS9.out.2.1.below HS9.out.2.2.2 hb, HS9.out.2.2.1.to s0 (fun h => h), HS9.out.2.2.2⟩
                    rw [hw10]
                    clear hw10 c0 HI9 HS9
                    have HC10 : Hid (∀ W : World, W.heap[S]? = w10.heap[S]? → W.cell? ⟨S, 1, none⟩ = some (.map (some M))) := fun W hW => (HS10.out.2.1.box.to (W' := W) hW).cell (j := 1) rfl
                    have HLEN := Lib.hid (show list.length = L from hLL.out.symm)
                    obtain ⟨ad, hsl, HNEWS⟩ : ∃ ad : Addr, (if lc = i + 1 then some (⟨gw, 0, none⟩ : Addr) else some ⟨gw, i + 1, none⟩) = some ad ∧ Hid (∀ j u, (natsI (list.drop (i + 1)))[j]? = some u → w10.drew.cell? (ad.add j) = some u) := by
                      have hrz : w10.drew.ownsRow B 3 1 (.slice (some ⟨gw, 0, none⟩) L lc) list.length (natsI list) := by
                        have h1 := HS10.out.2.1.wlist gone
                        rw [HVO.out, HWL.out] at h1
                        rcases h1 with h1 | ⟨a', ha', hx'⟩
                        · rw [natsI_len] at h1
                          exact h1
                        · have h2 : L = 0 := by injection ha'
                          omega
                      rw [show list.length = L from HLEN.out] at hrz
                      have hcell : ∀ j u, (natsI (list.drop (i + 1)))[j]? = some u → w10.drew.cell? ⟨gw, i + 1 + j, none⟩ = some u := fun j u hu => by
                        refine ownsRow_cell hrz ?_
                        unfold natsI at hu ⊢
                        rw [List.getElem?_map] at hu ⊢
                        rw [List.getElem?_drop] at hu
                        exact hu
                      by_cases hlast : lc = i + 1
                      · refine ⟨⟨gw, 0, none⟩, by rw [if_pos hlast], fun j u hu => ?_⟩
                        have h1 : list.drop (i + 1) = [] := List.drop_eq_nil_of_le (by have h1 : list.length = L := HLEN.out; omega)
                        rw [h1] at hu
                        cases hu
                      · exact ⟨⟨gw, i + 1, none⟩, by rw [if_neg hlast], fun j u hu => by
                          have h1 := hcell j u hu
                          unfold Addr.add
                          by_cases hj : j = 0
                          · subst hj; simpa using h1
                          · simpa [hj] using h1⟩
                    have HNR : Hid (L - (i + 1) = (list.drop (i + 1)).length) := by
                      show L - (i + 1) = (list.drop (i + 1)).length
                      rw [List.length_drop, show list.length = L from HLEN.out]
                    have HKB : Hid ((kept ++ [m]).length ≤ 4398046511104) := by
                      have h1 := HPJ3.out.wlOk.len gone
                      simp only [if_true, List.length_append, List.length_drop] at h1
                      rw [show list.length = L from HLEN.out] at h1
                      have h2 : cs3.length ≤ 4398046511104 := HCS3.out
                      show (kept ++ [m]).length ≤ 4398046511104
                      rw [List.length_append, List.length_singleton]
                      omega
                    obtain ⟨v11, w11, role6, hr11, hst11, hk11⟩ := HS10.out.2.2.1.rest (by simp) HS10.out.2.1.hi HS10.out.2.2.2 HKB.out HNR.out (by omega) HNEWS.out (c := lc - (i + 1))
                    have hsol11 := HS10.out.2.1.keep hst11 (fun _ e => e) HS10.out.2.2.2
                    have hB11 : B ≤ w11.heap.size := Nat.le_trans HS10.out.2.2.2 hst11.size
                    obtain ⟨w12, role7, hr12, hmv12, hsol12⟩ := hsol11.put_kept hB11 hok.out hn hk11
                    have HFIN : Hid (Q (.returned (.int .i64 (m : Int))) w12) := by
                      rw [← hQ.out]
                      refine ⟨(m : Int), h0 + 1, cs3, tr2, rfl, ⟨role7, vt2, _, _, (HS10.out.1.trans (hst11.mono fun r e => by rw [e]; simp)).trans hmv12, hsol12, HPJ3.out.trl, HPJ3.out.cl, fun l => ?_, HF3.out⟩, h0, HPJ3.out.wat, HPJ3.out.mks, Nat.le_of_lt HPJ3.out.at'.lt, .inr ⟨m, _, rfl, HC3.out, fun x hx => ?_, gone, by simp, HPJ3.out.at'⟩⟩
                      · have h1 := HPJ3.out.wlOk l
                        rw [drop_one HMI.out] at h1
                        by_cases e : l = gone
                        · simp only [e, if_true] at h1 ⊢
                          rw [List.append_assoc]
                          exact h1
                        · simp only [e, if_false] at h1 ⊢
                          exact h1
                      · simp only [List.mem_cons] at hx
                        rcases hx with e | e | e
                        · rw [e]; exact HATA.out
                        · rw [e]; exact ⟨h0, HPJ3.out.at'⟩
                        · exact HAF.out x e
                    have H11 : Hid (w11.heap[S]? = w10.heap[S]?) := (hst11.same S (HS10.out.2.1.hi S (by rw [HS10.out.2.1.rS]; simp)) (by rw [HS10.out.2.1.rS]; simp)).1
                    have HR11 := Lib.hid hr11
                    clear hr11 hst11 hk11 hsol11 hB11 hmv12 hsol12 HNEWS HNR HKB HLEN
                    have e1 : IntKind.i64.wrap ((i : Int) + 1) = (i : Int) + 1 := IntWalk.i64_in _ (by omega)
                    have e2 : ((i : Int) + 1).toNat = i + 1 := by omega
                    have e3 : 0 ≤ (i : Int) + 1 := by omega
                    have e4 : (i : Int) + 1 ≤ (L : Int) := by omega
                    refine wp_region_ord (fun W => W.heap[S]? = w10.heap[S]?) 11
                      [(true, 0), (true, 1), (true, 2), (true, 3), (true, 4), (true, 5), (true, 6), (true, 7), (true, 8), (true, 9), (false, 10), (false, 11)] (by kernel_rfl) (by kernel_rfl) (fun _ _ d _ _ h => by cases d <;> exact h) rfl ?_
                    intro wd hwd hS
                    simp only [ordOps, List.map_cons, List.map_nil, Array.getD_eq_getD_getElem?, List.getElem?_toArray, List.getElem?_cons_succ, List.getElem?_cons_zero, Option.getD_some]
                    iterate 10 (refine wpOrd_q rfl _ (fun w' hS' K hK => (by have q1 := HC10.out w' hS'; clear hS'; go_simp; exact hK)) (fun K hK => ?_); go_simp; refine hK _ ?_; clear hK K)
                    refine wpOrd_l rfl (fun K hK => ?_)
                    rw [hwd.out]
                    refine wp_append_run (.tmp 148) (.tmp 152) rfl rfl rfl rfl HR11.out ?_
                    refine hK _ _ ⟨fun _ => H11.out, ?_⟩
                    clear hK K
                    refine wpOrd_l rfl (fun K hK => ?_)
                    go_simp
                    refine hK _ _ ⟨fun h => absurd rfl h, ?_⟩
                    clear hK K
                    refine wpOrd_nil ?_
                    clear hr12 hS hwd HR11 H11 HC10 hsl e1 e2 e3 e4
                    go_wp2_with fail
                    exact HFIN.out
                  · have hv00 : va = 0 := by omega
                    subst hv00
                    have HOPEN : Hid (Sat.Open tr2 a) := by
                      have h1 : isV tr2 a = 0 := hva.out
                      rcases HCASE.out with ⟨h, _⟩ | ⟨h, _⟩ | ⟨_, h⟩
                      · rw [h1] at h; cases h
                      · rw [h1] at h; cases h
                      · exact h
                    go_upto_region 24 with (go_at_call 31; refine HI9.out.mono ?_; rintro e w1 ⟨rfl, q4, rfl⟩)
                    obtain ⟨w10, hw10⟩ : ∃ w10, w9.drewN q4 = w10 := ⟨_, rfl⟩
                    have HS10 : Hid (Moved role w role5 w10 ∧ SolIn w10 B role5 S M gv gl gr vc vt2 vm (h0 + 1) n cv wo2 wl2 cs3 tr2 mk ∧ KeptAt w10 B role5 (.slice (some ⟨g9, 0, none⟩) kl cap9) (kept ++ [m]) ∧ B ≤ w10.heap.size) := by
                      rw [← hw10]
                      have hb : Below w9.heap.size w9 (w9.drewN q4) := below_dr (Below.refl _ _) q4
                      have s0 := Step.of_below HS9.out.2.1.hi hb
                      exact ⟨HS9.out.1.trans (s0.mono fun _ h => h.elim), HS9.out.2.1.below HS9.out.2.2.2 hb, HS9.out.2.2.1.to s0 (fun h => h), HS9.out.2.2.2⟩
                    rw [hw10]
                    clear hw10 c0 HI9 HS9
                    have hlen2 := tr_len HPJ3.out.trl
                    have hmk2 := mk_len HPJ3.out.trl
                    have HSET := Lib.hid (set_c HS10.out.2.1 HS10.out.2.2.2 (why := (m : Int)) HLA.out hn HOPEN.out (by omega) (by omega))
                    clear hlen2 hmk2
                    have c0 := (HS10.out.2.1.ccell HC3.out HCV.out).1 0 a rfl
                    go_wp2_with (go_at_call 32; refine HSET.out.mono ?_; intro e w11 hpost; obtain ⟨rfl, role6, vt6, hst6, hsol6⟩ := hpost)
                    have HEND : Hid (WInv role w B S M gv gl gr vc vm n cv orig gs cs tr mk h0 gone list (.slice (some ⟨gw, 0, none⟩) L lc) (.slice (some ⟨g9, 0, none⟩) kl cap9) (i + 1) w11) :=
                      ⟨role6, vt6, wo2, wl2, cs3, _, kept ++ [m], HS10.out.1.trans (hst6.mono (by rintro r (e | e | e | e | e) <;> rw [e] <;> simp)), hsol6, HS10.out.2.2.1.to hst6 (by rintro (e | e | e | e | e) <;> cases e), HPJ3.out.unit HMI.out HC3.out HOPEN.out HAF.out, HF3.out.snoc _, HVO.out, HWL.out⟩
                    clear hst6 hsol6
                    go_roundg (gI - 1)
                    case measure => omega
                    case rel => exact ⟨i + 1, by go_num, by omega, by omega, HEND.out⟩
        · have hiE : list.length ≤ i := by rw [← hLL.out]; omega
          obtain ⟨hw5, hl5⟩ := HPJ.out.over hiE
          obtain ⟨w2, role3, hst, hmv3, hsol3⟩ := HS2.out.put_kept (Nat.le_trans HB0.out HMV2.out.size) hok.out hn HK2.out
          have HEND : Hid (∃ head' cs' tr', PropOut role w B S M gv gl gr vc vm n cv orig gs cs tr mk head' cs' tr' w2 ∧ Wat cs' tr' head' ∧ (∀ m ∈ mk, m ≤ head') ∧ head' ≤ tr'.length ∧ n + 1 ≤ head' + (gO - 1)) := by
            exact ⟨h0 + 1, cs2, tr2, ⟨role3, _, _, _, HMV2.out.trans hmv3, hsol3, HPJ.out.trl, HPJ.out.cl, hl5, HF2.out⟩, hw5, fun m hm => Nat.le_succ_of_le (HPJ.out.mks m hm), HPJ.out.at'.lt, by omega⟩
          have hb1 := HS2.out.box.cell (j := 1) rfl
          clear hw5 hl5 hmv3 hsol3
          replace hiE := Lib.hid hiE
          go_wp2_with fail
          dsimp only [Exit.noGoto, Exit.inBlock, Exit.then]
          go_wp2_with fail
          go_roundg (gO - 1)
          case measure => omega
          case rel => exact HEND.out
    · have hltd : decide ((h0 : Int) < (tr1.length : Int)) = false := by simp; omega
      have hEq : h0 = tr1.length := by omega
      obtain ⟨N, hN⟩ : ∃ N, N = tr1.length := ⟨_, rfl⟩
      have HFIN : Hid (∀ W : World, Moved role1 wr role1 W → SolIn W B role1 S M gv gl gr vc (.slice ta tr1.length tc) vm h0 n cv wo1 wl1 cs1 tr1 mk → Q (.returned (.int .i64 (-1))) W) := fun W h1 h2 => by
        rw [← hQ.out]
        exact ⟨-1, h0, cs1, tr1, rfl, ⟨role1, _, wo1, wl1, HMV.out.trans h1, h2, HT.out, HC.out, HL.out, HF.out⟩, h0, HW.out, HM.out, hh, .inl ⟨rfl, hEq, hEq⟩⟩
      rw [← hN] at HQ hlen hltd hh hlt
      replace hN := Lib.hid hN
      replace hEq := Lib.hid hEq
      go_upto_region 1 with fail
      have q5 := (HQ.out wr rfl).1
      have q7 := (HQ.out wr rfl).2.1
      go_quiet (fail)
      go_wp2_with fail
      exact HFIN.out _ (Moved.of_below HS.out.hi (below_dr (Below.refl _ _) _)) (HS.out.below (Nat.le_trans HB0.out HMV.out.size) (below_dr (Below.refl _ _) _))
end
end Go.Proofs.Ytkeagjphddcjeaa
