/-
  The solver: set. Helper text; the conditions are those typed.
-/
import Derived.Test.YtkeagjphddcjeaaSolA
import Derived.Deep.AppendLies
import Derived.Deep.RegionHeld3
namespace Go.Proofs.Ytkeagjphddcjeaa
set_option linter.unusedVariables false
set_option linter.unusedSimpArgs false
open Go.RowKit Go.Maps Sat

theorem info3 : (Try.prog.info? 3).map (fun i => (i.zero, i.size, i.bytes)) = some (some (.int .i64 0), 1, 8) := by kernel_rfl
theorem valOf_snoc {tr : List En} {e : En} (ho : Sat.Open tr e.lit) (u : Nat) : valOf (tr ++ [e]) u = if u = vr e.lit then (if e.lit < 0 then -1 else 1) else valOf tr u := by
  unfold valOf
  rw [List.find?_append]
  by_cases hu : u = vr e.lit
  · subst hu
    rw [List.find?_eq_none.2 (fun e' he' => by simpa using ho e' he'), if_pos rfl]
    simp
  · rw [if_neg hu]
    cases hf : tr.find? fun e' => decide (vr e'.lit = u) with
    | some e' => rfl
    | none => simp [Ne.symm hu]

section
variable {w w' : World} {B : Nat} {role role' : Nat → Role} {S M gv gl gr : Nat} {vc vt vm : Value} {head n : Nat} {cv : Nat → Value} {wo : Int → Option Value} {wl : Int → List Nat} {cs : List Cl} {tr : List En} {mk : List Nat} {T : Role → Prop}
/-- A literal more on the trail: the cells are written, the row has grown. -/
theorem SolIn.set_step {w1 w2 : World} (h : SolIn w B role S M gv gl gr vc vt vm head n cv wo wl cs tr mk) (hB : B ≤ w.heap.size) {l : Int} {why : Int} (hl : Lok n l) (ho : Sat.Open tr l)
    (hs1 : Step (fun r => r = .vals ∨ r = .levs ∨ r = .whys) role w role w1)
    (hv : BoxF w1 gv n (fun u => .int .i64 (valOf (tr ++ [⟨l, mk.length, why⟩]) u)) 3) (hlv : ∃ f : Nat → Int, BoxF w1 gl n (fun u => .int .i64 (f u)) 3 ∧ ∀ e ∈ tr ++ [⟨l, mk.length, why⟩], f (vr e.lit) = (e.lev : Int))
    (hwy : ∃ f : Nat → Int, BoxF w1 gr n (fun u => .int .i64 (f u)) 3 ∧ ∀ e ∈ tr ++ [⟨l, mk.length, why⟩], f (vr e.lit) = e.why) {w1a : World} (hb1 : Below w1.heap.size w1 w1a) {g cap : Nat}
    (hown : w2.ownsRow B 3 1 (.slice (some ⟨g, 0, none⟩) (tr.length + 1) cap) (tr.length + 1) (intsI (tr.map (·.lit)) ++ [.int .i64 l])) (hgrow : w1a.grownBy w2 vt.ownBlock) (hat : vt.ownBlock = some g ∨ w1a.heap.size ≤ g) (hlt : g < w2.heap.size) :
    ∃ role', Step SetT role w role' (w2.setCell ⟨S, 5, none⟩ (.slice (some ⟨g, 0, none⟩) (tr.length + 1) cap)) ∧
      SolIn (w2.setCell ⟨S, 5, none⟩ (.slice (some ⟨g, 0, none⟩) (tr.length + 1) cap)) B role' S M gv gl gr vc (.slice (some ⟨g, 0, none⟩) (tr.length + 1) cap) vm head n cv wo wl cs (tr ++ [⟨l, mk.length, why⟩]) mk := by
  have s1a := Step.of_below hs1.inn hb1
  have s2 := Step.of_row s1a.inn (R := .trow) (by simp) h.rt hgrow hat hlt
  have s3 := Step.of_set s2.inn S 5 (.slice (some ⟨g, 0, none⟩) (tr.length + 1) cap)
  have s12 := (hs1.trans (s1a.trans s2)).mono (T2 := fun r => r = .vals ∨ r = .levs ∨ r = .whys ∨ r = .trow) (by rintro r ((e | e | e) | e | e); exact .inl e; exact .inr (.inl e); exact .inr (.inr (.inl e)); exact e.elim; exact .inr (.inr (.inr e)))
  have rS := (h.blk s12 h.rS (by simp) (by simp)).2
  have hs := (s12.trans s3).mono (T2 := fun r => r = .vals ∨ r = .levs ∨ r = .whys ∨ r = .trow ∨ r = .box) (by rintro r ((e | e | e | e) | e); exact .inl e; exact .inr (.inl e); exact .inr (.inr (.inl e)); exact .inr (.inr (.inr (.inl e))); exact .inr (.inr (.inr (.inr (e.trans rS)))))
  have hSg : S ≠ g := fun e => by subst e; simp at rS
  -- the blocks of values, levels, reasons, behind the row's growth
  have hrole : ∀ b R, role b = R → R ≠ .free → R ≠ .trow → R ≠ .box → (w2.setCell ⟨S, 5, none⟩ (.slice (some ⟨g, 0, none⟩) (tr.length + 1) cap)).heap[b]? = w1.heap[b]? ∧ (fun b => if b = g then Role.trow else role b) b = R := fun b R hb h1 h2 h3 => by
    have hbw := h.hi b (by rw [hb]; exact h1)
    have hb1' : b < w1.heap.size := Nat.lt_of_lt_of_le hbw hs1.size
    have hbg : b ≠ g := fun e => by
      subst e
      rcases hat with h4 | h4
      · have := h.rt b h4
        rw [hb] at this
        exact h2 this
      · have := hb1.size
        omega
    refine ⟨?_, ?_⟩
    · rw [set_other _ (fun e => by subst e; rw [h.rS] at hb; exact h3 hb.symm), hgrow.block b (Nat.lt_of_lt_of_le hb1' hb1.size) (fun e => by have := h.rt b e.symm; rw [hb] at this; exact h2 this), hb1.block b hb1']
    · show (if b = g then Role.trow else role b) = R
      rw [if_neg hbg]
      exact hb
  obtain ⟨fl, hl1, hl2⟩ := hlv
  obtain ⟨fr, hr1, hr2⟩ := hwy
  refine ⟨_, hs.mono (fun _ h => h), ?_, ownsRow_to h.crow fun b hb => (h.blk hs (h.rc b hb) (by simp) (by simp)).1, fun i c hc => ownsRow_to (h.clause i c hc) fun b hb => (h.blk hs (h.rC i b (List.getElem?_eq_some_iff.1 hc).1 hb) (by simp) (by simp)).1,
    h.watch.block (h.blk hs h.rM (by simp) (by simp)).1, h.wdom, fun l' => (h.wlist l').to fun hne b hb => ?_, hv.to (hrole gv _ h.rv (by simp) (by simp) (by simp)).1, ⟨fl, hl1.to (hrole gl _ h.rl (by simp) (by simp) (by simp)).1, hl2⟩, ⟨fr, hr1.to (hrole gr _ h.rr (by simp) (by simp) (by simp)).1, hr2⟩,
    ?_, ownsRow_to h.mrow fun b hb => (h.blk hs (h.rm b hb) (by simp) (by simp)).1,
    rS, (h.blk hs h.rM (by simp) (by simp)).2, (hrole gv _ h.rv (by simp) (by simp) (by simp)).2, (hrole gl _ h.rl (by simp) (by simp) (by simp)).2, (hrole gr _ h.rr (by simp) (by simp) (by simp)).2, fun b hb => (h.blk hs (h.rc b hb) (by simp) (by simp)).2, fun i b hi hb => (h.blk hs (h.rC i b hi hb) (by simp) (by simp)).2,
    fun l' b v hv hne hb => (h.blk hs (h.rW l' b v hv hne hb) (by simp) (by simp)).2, fun b hb => ?_, fun b hb => (h.blk hs (h.rm b hb) (by simp) (by simp)).2, hs.lo (h := h.lo) hB, hs.inn⟩
  · have hb1' : BoxN w1 S _ 54 := h.box.to (hs1.same S (h.hi S (by rw [h.rS]; simp)) (by rw [h.rS]; simp)).1
    have hb2 := hb1'.below hb1
    have hb3 := hb2.to (hgrow.block S hb2.lt (fun e => by have := h.rt S e.symm; rw [h.rS] at this; cases this))
    exact hb3.set 5 _
  · cases hw : wo l' with
    | none => rw [hw] at hb; cases hb
    | some v =>
      rw [hw] at hb hne
      exact (h.blk hs (h.rW l' b v hw hne hb) (by simp) (by simp)).1
  · rw [List.length_append, List.length_singleton, List.map_append]
    have : intsI (tr.map (·.lit) ++ [(⟨l, mk.length, why⟩ : En)].map (·.lit)) = intsI (tr.map (·.lit)) ++ [.int .i64 l] := intsI_snoc _ _
    rw [this]
    refine ownsRow_to hown fun b hb => ?_
    cases hb
    exact set_other _ (Ne.symm hSg)
  · cases hb
    show (if g = g then Role.trow else _) = _
    exact if_pos rfl

def SetPost (role : Nat → Role) (w : World) (B S M gv gl gr : Nat) (vc vm : Value) (head n : Nat) (cv : Nat → Value) (wo : Int → Option Value) (wl : Int → List Nat) (cs : List Cl) (tr : List En) (mk : List Nat) (e : Ending) (w' : World) : Prop :=
  e = .returned (.tuple #[]) ∧ ∃ role' vt', Step SetT role w role' w' ∧ SolIn w' B role' S M gv gl gr vc vt' vm head n cv wo wl cs tr mk

set_option maxHeartbeats 4000000 in
set_option maxRecDepth 100000 in
theorem set_c (h : SolIn w B role S M gv gl gr vc vt vm head n cv wo wl cs tr mk) (hB : B ≤ w.heap.size) {l : Int} {why : Int} (hl : Lok n l) (hn : n ≤ 1000) (ho : Sat.Open tr l) (hmk : mk.length ≤ 1000) (htr : tr.length ≤ 1000) :
    Calls Try.prog 32 #[.pointer (some ⟨S, 0, none⟩), .int .i64 l, .int .i64 why] w (SetPost role w B S M gv gl gr vc vm head n cv wo wl cs (tr ++ [⟨l, mk.length, why⟩]) mk) := by
  have HO := Lib.hid (fun w => of_c hl hn w)
  have hvn := hl.lt
  obtain ⟨ta, tc, hvt⟩ := ownsRow_slice h.trow
  obtain ⟨ma, mc, hvm⟩ := ownsRow_slice h.mrow
  subst hvt hvm
  obtain ⟨Q, hQ⟩ : ∃ Q, SetPost role w B S M gv gl gr vc (.slice ma mk.length mc) head n cv wo wl cs (tr ++ [⟨l, mk.length, why⟩]) mk = Q := ⟨_, rfl⟩
  rw [hQ]
  replace hQ := Lib.hid hQ
  have HH := Lib.hid h
  clear h
  generalize hu : vr l = u at HO hvn
  have hvn1 : (u : Int) < (n : Int) := by omega
  replace hu := Lib.hid hu
  replace hl := Lib.hid hl
  replace ho := Lib.hid ho
  go_enter Try.func32, Try.ntmps32
  go_upto_region 1 with (go_at_call 46; refine (HO.out _).mono ?_; rintro e w1 ⟨rfl, rfl⟩)
  have hne1 : gl ≠ gv := fun e => by have h1 := HH.out.rl; rw [e, HH.out.rv] at h1; cases h1
  have hne2 : gr ≠ gv := fun e => by have h1 := HH.out.rr; rw [e, HH.out.rv] at h1; cases h1
  have hne3 : gr ≠ gl := fun e => by have h1 := HH.out.rr; rw [e, HH.out.rl] at h1; cases h1
  have hS1 : S ≠ gv := fun e => by have h1 := HH.out.rS; rw [e, HH.out.rv] at h1; cases h1
  have hS2 : S ≠ gl := fun e => by have h1 := HH.out.rS; rw [e, HH.out.rl] at h1; cases h1
  have hS3 : S ≠ gr := fun e => by have h1 := HH.out.rS; rw [e, HH.out.rr] at h1; cases h1
  obtain ⟨fl, hl1, hl2⟩ := HH.out.levs
  obtain ⟨fr, hr1, hr2⟩ := HH.out.whys
  have HK : Hid (∀ W : World, W.heap[S]? = w1.heap[S]? → W.cell? ⟨S, 2, none⟩ = some (.slice (some ⟨gv, 0, none⟩) n n) ∧ W.cell? ⟨S, 3, none⟩ = some (.slice (some ⟨gl, 0, none⟩) n n) ∧ W.cell? ⟨S, 4, none⟩ = some (.slice (some ⟨gr, 0, none⟩) n n) ∧ W.cell? ⟨S, 6, none⟩ = some (.slice ma mk.length mc)) := fun W hW => by
    have hb := HH.out.box.to hW
    exact ⟨hb.cell (j := 2) rfl, hb.cell (j := 3) rfl, hb.cell (j := 4) rfl, hb.cell (j := 6) rfl⟩
  have b2 := HH.out.box.cell (j := 2) rfl
  have b3 := HH.out.box.cell (j := 3) rfl
  have b4 := HH.out.box.cell (j := 4) rfl
  have b6 := HH.out.box.cell (j := 6) rfl
  have v0 := HH.out.vals.cell hvn
  have v1 := HH.out.vals.frozen u
  have l0 := hl1.cell hvn
  have l1 := hl1.frozen u
  have r0 := hr1.cell hvn
  have r1 := hr1.frozen u
  go_region_held3 (fun W => W.cell? ⟨S, 2, none⟩ = some (.slice (some ⟨gv, 0, none⟩) n n) ∧ W.cell? ⟨S, 3, none⟩ = some (.slice (some ⟨gl, 0, none⟩) n n) ∧ W.cell? ⟨S, 4, none⟩ = some (.slice (some ⟨gr, 0, none⟩) n n) ∧ W.cell? ⟨S, 6, none⟩ = some (.slice ma mk.length mc))
    (first | exact HK.out _ rfl | exact HK.out _ (set_other _ hS1) | exact HK.out _ ((set_other _ hS2).trans (set_other _ hS1)) | exact HK.out _ ((set_other _ hS3).trans ((set_other _ hS2).trans (set_other _ hS1)))) (first | fail)
  obtain ⟨wS, eS⟩ : ∃ wS, (((w1.setCell ⟨gv, u, none⟩ (.int .i64 1)).setCell ⟨gl, u, none⟩ (.int .i64 (mk.length : Int))).setCell ⟨gr, u, none⟩ (.int .i64 why)).drew = wS := ⟨_, rfl⟩
  have hgvw := HH.out.vals.lt
  have hglw := hl1.lt
  have hgrw := hr1.lt
  have HX : Hid (Step (fun r => r = .vals ∨ r = .levs ∨ r = .whys) role w1 role wS ∧ BoxF wS gv n (fun j => if j = u then .int .i64 1 else .int .i64 (valOf tr j)) 3 ∧ BoxF wS gl n (fun j => if j = u then .int .i64 (mk.length : Int) else .int .i64 (fl j)) 3 ∧ BoxF wS gr n (fun j => if j = u then .int .i64 why else .int .i64 (fr j)) 3) := by
    subst eS
    have s1 := Step.of_set HH.out.hi gv u (.int .i64 1)
    have s2 := Step.of_set s1.inn gl u (.int .i64 (mk.length : Int))
    have s3 := Step.of_set s2.inn gr u (.int .i64 why)
    have s := (s1.trans (s2.trans s3)).mono (T2 := fun r => r = .vals ∨ r = .levs ∨ r = .whys) (by rintro r (e | e | e); exact .inl (e.trans HH.out.rv); exact .inr (.inl (e.trans HH.out.rl)); exact .inr (.inr (e.trans HH.out.rr)))
    refine ⟨⟨s.os, s.tape, s.output, s.size, s.same, s.dom⟩, ?_, ?_, ?_⟩
    · exact (((HH.out.vals.set u _).other (Ne.symm hne1) u _).other (Ne.symm hne2) u _).to rfl
    · exact (((hl1.other hne1 u _).set u _).other (Ne.symm hne3) u _).to rfl
    · exact (((hr1.other hne2 u _).other hne3 u _).set u _).to rfl
  rw [eS]
  have HBS : Hid (BoxN wS S [vc, .map (some M), .slice (some ⟨gv, 0, none⟩) n n, .slice (some ⟨gl, 0, none⟩) n n, .slice (some ⟨gr, 0, none⟩) n n, .slice ta tr.length tc, .slice ma mk.length mc, .int .i64 (head : Int)] 54) := HH.out.box.to (HX.out.1.same S (HH.out.hi S (by rw [HH.out.rS]; simp)) (by rw [HH.out.rS]; simp)).1
  have HTS : Hid (wS.ownsRow B 3 1 (.slice ta tr.length tc) tr.length (intsI (tr.map (·.lit)))) := ownsRow_to HH.out.trow fun g hg => (HX.out.1.same g (HH.out.hi g (by rw [HH.out.rt g hg]; simp)) (by rw [HH.out.rt g hg]; simp)).1
  clear eS HK b2 b3 b4 b6 v0 v1 l0 l1 r0 r1
  have HLW : Hid ((∃ f : Nat → Int, BoxF wS gl n (fun u => .int .i64 (f u)) 3 ∧ ∀ e ∈ tr ++ [(⟨l, mk.length, why⟩ : En)], f (vr e.lit) = (e.lev : Int)) ∧ (∃ f : Nat → Int, BoxF wS gr n (fun u => .int .i64 (f u)) 3 ∧ ∀ e ∈ tr ++ [(⟨l, mk.length, why⟩ : En)], f (vr e.lit) = e.why)) := by
    refine ⟨⟨fun j => if j = u then (mk.length : Int) else fl j, HX.out.2.2.1.congr fun j _ => (by by_cases hj : j = u <;> simp [hj]), fun e he => ?_⟩, ⟨fun j => if j = u then why else fr j, HX.out.2.2.2.congr fun j _ => (by by_cases hj : j = u <;> simp [hj]), fun e he => ?_⟩⟩
    all_goals
      rcases List.mem_append.1 he with h1 | h1
      · have hv : vr e.lit ≠ u := fun hh => ho.out e h1 (by rw [hh, hu.out])
        simp only [hv, if_false]
        first | exact hl2 e h1 | exact hr2 e h1
      · have he2 := List.mem_singleton.1 h1
        subst he2
        have hv : vr l = u := hu.out
        simp only [hv, if_true]
  -- the trail's row
  have hB1 : Hid (B ≤ w1.heap.size) := hB
  obtain ⟨i3, hi3, hz30, hz31, hz32⟩ := info_parts info3
  have b2 := HBS.out.cell (j := 2) rfl
  by_cases hneg : l < 0
  · have p0 := HX.out.2.1.cell hvn
    have p1 := HX.out.2.1.frozen u
    obtain ⟨wT, eT⟩ : ∃ wT, wS.setCell ⟨gv, u, none⟩ (.int .i64 (-1)) = wT := ⟨_, rfl⟩
    have HY : Hid (Step (fun r => r = .vals ∨ r = .levs ∨ r = .whys) role w1 role wT ∧ BoxF wT gv n (fun j => .int .i64 (valOf (tr ++ [(⟨l, mk.length, why⟩ : En)]) j)) 3 ∧ BoxN wT S [vc, .map (some M), .slice (some ⟨gv, 0, none⟩) n n, .slice (some ⟨gl, 0, none⟩) n n, .slice (some ⟨gr, 0, none⟩) n n, .slice ta tr.length tc, .slice ma mk.length mc, .int .i64 (head : Int)] 54 ∧ wT.ownsRow B 3 1 (.slice ta tr.length tc) tr.length (intsI (tr.map (·.lit))) ∧ wT.heap[gl]? = wS.heap[gl]? ∧ wT.heap[gr]? = wS.heap[gr]?) := by
      subst eT
      have s2 := Step.of_set HX.out.1.inn gv u (.int .i64 (-1))
      refine ⟨(HX.out.1.trans s2).mono (by rintro r (e | e); exact e; exact .inl (e.trans HH.out.rv)), (HX.out.2.1.set u _).congr fun j _ => ?_, HBS.out.to (set_other _ hS1), ownsRow_to HTS.out fun g hg => set_other _ (fun e => by have h1 := HH.out.rt g hg; rw [e, HH.out.rv] at h1; cases h1), set_other _ hne1, set_other _ hne2⟩
      rw [valOf_snoc ho.out]
      by_cases hj : j = u
      · rw [if_pos hj, if_pos (by rw [hj]; exact hu.out.symm), if_pos hneg]
      · rw [if_neg hj, if_neg hj, if_neg (fun hh => hj (hh.trans hu.out))]
    have b5 := HY.out.2.2.1.cell (j := 5) rfl
    have HLW' : Hid ((∃ f : Nat → Int, BoxF wT gl n (fun u => .int .i64 (f u)) 3 ∧ ∀ e ∈ tr ++ [(⟨l, mk.length, why⟩ : En)], f (vr e.lit) = (e.lev : Int)) ∧ (∃ f : Nat → Int, BoxF wT gr n (fun u => .int .i64 (f u)) 3 ∧ ∀ e ∈ tr ++ [(⟨l, mk.length, why⟩ : En)], f (vr e.lit) = e.why)) := by
      obtain ⟨⟨f1, a1, a2⟩, ⟨f2, a3, a4⟩⟩ := HLW.out
      exact ⟨⟨f1, a1.to HY.out.2.2.2.2.1, a2⟩, ⟨f2, a3.to HY.out.2.2.2.2.2, a4⟩⟩
    obtain ⟨WA, hWA⟩ : ∃ WA, wT.alloc (.cells #[.int .i64 l] 3) = WA := ⟨_, rfl⟩
    have HWA : Hid (Below wT.heap.size wT WA ∧ BoxN WA wT.heap.size [.int .i64 l] 3 ∧ WA.heap.size = wT.heap.size + 1) := by
      rw [← hWA]
      exact ⟨below1 _ _, boxN_alloc _ _ _, by simp⟩
    have HBA : Hid (BoxN WA S [vc, .map (some M), .slice (some ⟨gv, 0, none⟩) n n, .slice (some ⟨gl, 0, none⟩) n n, .slice (some ⟨gr, 0, none⟩) n n, .slice ta tr.length tc, .slice ma mk.length mc, .int .i64 (head : Int)] 54) := HY.out.2.2.1.below HWA.out.1
    have hWB : Hid (B ≤ WA.heap.size) := Nat.le_trans hB1.out (Nat.le_trans HY.out.1.size HWA.out.1.size)
    have b5a := HBA.out.cell (j := 5) rfl
    have HOT : Hid (∀ W, WA.grownBy W (Value.slice ta tr.length tc).ownBlock → BoxN W S [vc, .map (some M), .slice (some ⟨gv, 0, none⟩) n n, .slice (some ⟨gl, 0, none⟩) n n, .slice (some ⟨gr, 0, none⟩) n n, .slice ta tr.length tc, .slice ma mk.length mc, .int .i64 (head : Int)] 54) := fun W hg => HBA.out.to (hg.block S HBA.out.lt (fun e => by have h1 := HH.out.rt S e.symm; rw [HH.out.rS] at h1; cases h1))
    have hown0 := Lib.hid (ownsRow_below HY.out.2.2.2.1 HWA.out.1)
    go_wp2_with (at_builtin; refine wpList_append_lies _ rfl (.tmp 45) (.tmp 47) 24 rfl B 3 i3 (.int .i64 0) 1 8 Try.underlying24 hi3 hz30 hz31 hz32 rfl (by decide) (.slice ta tr.length tc) tr.length (intsI (tr.map (·.lit))) rfl hown0.out ⟨wT.heap.size, 0, none⟩ 1 1 [.int .i64 l] rfl rfl (World.news_of_block (cs := #[.int .i64 l]) (t := 3) (fr := (0, 0)) HWA.out.2.1) (by simp [Value.oneCell']) (by omega) (by unfold maxLen; omega) (by omega) hWB.out WA.heap.size rfl ?_; intro g2 cap2 w10 hown10 hgrow10 hat10 hlt10; have c10 := (HOT.out _ hgrow10).cell (j := 5) rfl; have f10 := (HOT.out _ hgrow10).frozen 5)
    have hat' : (Value.slice ta tr.length tc).ownBlock = some g2 ∨ WA.heap.size ≤ g2 := hat10.imp (fun h => h) (fun h => Nat.le_of_eq h.symm)
    obtain ⟨role', hm, hsol⟩ := HH.out.set_step hB1.out hl.out ho.out HY.out.1 HY.out.2.1 (HLW'.out).1 (HLW'.out).2 HWA.out.1 hown10 hgrow10 hat' hlt10
    refine bodyPost_ret (v := .tuple #[]) (by simp [results, Try.results32, go_sem]) rfl ?_
    rw [← hQ.out]
    exact ⟨rfl, role', _, hm, hsol⟩
  · have HY : Hid (Step (fun r => r = .vals ∨ r = .levs ∨ r = .whys) role w1 role wS ∧ BoxF wS gv n (fun j => .int .i64 (valOf (tr ++ [(⟨l, mk.length, why⟩ : En)]) j)) 3 ∧ BoxN wS S [vc, .map (some M), .slice (some ⟨gv, 0, none⟩) n n, .slice (some ⟨gl, 0, none⟩) n n, .slice (some ⟨gr, 0, none⟩) n n, .slice ta tr.length tc, .slice ma mk.length mc, .int .i64 (head : Int)] 54 ∧ wS.ownsRow B 3 1 (.slice ta tr.length tc) tr.length (intsI (tr.map (·.lit))) ∧ True) := by
      refine ⟨HX.out.1, HX.out.2.1.congr fun j _ => ?_, HBS.out, HTS.out, trivial⟩
      rw [valOf_snoc ho.out]
      by_cases hj : j = u
      · rw [if_pos hj, if_pos (by rw [hj]; exact hu.out.symm), if_neg hneg]
      · rw [if_neg hj, if_neg (fun hh => hj (hh.trans hu.out))]
    have HLW' := HLW
    have b5 := HY.out.2.2.1.cell (j := 5) rfl
    obtain ⟨WA, hWA⟩ : ∃ WA, wS.alloc (.cells #[.int .i64 l] 3) = WA := ⟨_, rfl⟩
    have HWA : Hid (Below wS.heap.size wS WA ∧ BoxN WA wS.heap.size [.int .i64 l] 3 ∧ WA.heap.size = wS.heap.size + 1) := by
      rw [← hWA]
      exact ⟨below1 _ _, boxN_alloc _ _ _, by simp⟩
    have HBA : Hid (BoxN WA S [vc, .map (some M), .slice (some ⟨gv, 0, none⟩) n n, .slice (some ⟨gl, 0, none⟩) n n, .slice (some ⟨gr, 0, none⟩) n n, .slice ta tr.length tc, .slice ma mk.length mc, .int .i64 (head : Int)] 54) := HY.out.2.2.1.below HWA.out.1
    have hWB : Hid (B ≤ WA.heap.size) := Nat.le_trans hB1.out (Nat.le_trans HY.out.1.size HWA.out.1.size)
    have b5a := HBA.out.cell (j := 5) rfl
    have HOT : Hid (∀ W, WA.grownBy W (Value.slice ta tr.length tc).ownBlock → BoxN W S [vc, .map (some M), .slice (some ⟨gv, 0, none⟩) n n, .slice (some ⟨gl, 0, none⟩) n n, .slice (some ⟨gr, 0, none⟩) n n, .slice ta tr.length tc, .slice ma mk.length mc, .int .i64 (head : Int)] 54) := fun W hg => HBA.out.to (hg.block S HBA.out.lt (fun e => by have h1 := HH.out.rt S e.symm; rw [HH.out.rS] at h1; cases h1))
    have hown0 := Lib.hid (ownsRow_below HY.out.2.2.2.1 HWA.out.1)
    go_wp2_with (at_builtin; refine wpList_append_lies _ rfl (.tmp 45) (.tmp 47) 24 rfl B 3 i3 (.int .i64 0) 1 8 Try.underlying24 hi3 hz30 hz31 hz32 rfl (by decide) (.slice ta tr.length tc) tr.length (intsI (tr.map (·.lit))) rfl hown0.out ⟨wS.heap.size, 0, none⟩ 1 1 [.int .i64 l] rfl rfl (World.news_of_block (cs := #[.int .i64 l]) (t := 3) (fr := (0, 0)) HWA.out.2.1) (by simp [Value.oneCell']) (by omega) (by unfold maxLen; omega) (by omega) hWB.out WA.heap.size rfl ?_; intro g2 cap2 w10 hown10 hgrow10 hat10 hlt10; have c10 := (HOT.out _ hgrow10).cell (j := 5) rfl; have f10 := (HOT.out _ hgrow10).frozen 5)
    have hat' : (Value.slice ta tr.length tc).ownBlock = some g2 ∨ WA.heap.size ≤ g2 := hat10.imp (fun h => h) (fun h => Nat.le_of_eq h.symm)
    obtain ⟨role', hm, hsol⟩ := HH.out.set_step hB1.out hl.out ho.out HY.out.1 HY.out.2.1 (HLW'.out).1 (HLW'.out).2 HWA.out.1 hown10 hgrow10 hat' hlt10
    refine bodyPost_ret (v := .tuple #[]) (by simp [results, Try.results32, go_sem]) rfl ?_
    rw [← hQ.out]
    exact ⟨rfl, role', _, hm, hsol⟩
end
end Go.Proofs.Ytkeagjphddcjeaa
