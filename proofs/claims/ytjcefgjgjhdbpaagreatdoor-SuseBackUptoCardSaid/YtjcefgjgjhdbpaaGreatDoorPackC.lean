/-
  A package begins: the walk. Helper text; the conditions are those typed.
  The reader's state; a package begins. Helper text; the conditions are those typed.
-/
import Derived.Test.YtjcefgjgjhdbpaaGreatDoorPackA
import Derived.Stop.RegionWithIn
import Derived.Test.YtjcefgjgjhdbpaaGreatDoorSuseJoin
namespace Go.Proofs.YtjcefgjgjhdbpaaGreatDoor
set_option linter.unusedVariables false
set_option linter.unusedSimpArgs false
open Go.RowKit Go.Shelf Go.Maps
attribute [local go_sem] Oper.semAt_some

/-- As Q; no way out by a panic. -/
def noPanic (Q : Exit → Act → World → Prop) : Exit → Act → World → Prop
  | .panic _, _, _ => False
  | e, a, w => Q e a w
theorem wp_noPanic {P : Program} {c : Code} {Q : Exit → Act → World → Prop} {a : Act} {w : World} (h : c.wp P (noPanic Q) a w) : c.wp P Q a w :=
  Code.wp_mono (fun e a w h => by cases e <;> first | exact h | exact h.elim) h
/-- The end: a package has begun. -/
theorem pack_fin {w w2 W W3 : World} {L B M D : Nat} {K : Nat → Prop} {out : List PkgT} {vo : Value} (ho : OutO w2 L B M K out vo) (hall : ∀ b, b < w2.heap.size → W.heap[b]? = w2.heap[b]?) (h3 : ∀ b, b ≠ B → W3.heap[b]? = W.heap[b]?) (hl : Below L w W3) (hD : w2.heap.size ≤ D) (hLD : L ≤ D) (hBl : B < w2.heap.size) (hK : W3.heap[D]? = some (.deferred (some []))) (o' : Obj)
    {nm ev ar : ByteArray} (hb : BoxN W3 B (rdrCells vo (pkgCells nm ev ar ⟨#[]⟩ (fun _ => .slice none 0 0) (.slice none 0 0)) true M) 41) (p : SP) (h1 : p.name = nm) (h2 : p.evr = ev) (h4 : p.arch = ar) (h5 : p.vendor = ⟨#[]⟩) (hL : ∀ i, p.L i = []) (hf : p.files = []) (s1 : nm.size ≤ 200000) (s2 : ev.size ≤ 200000) (s3 : ar.size ≤ 200000) :
    Below L w (W3.putObj D o') ∧ Rdr (W3.putObj D o') L B M K out p true vo (fun _ => .slice none 0 0) (.slice none 0 0) := by
  subst h1 h2 h4
  have hm : 200000 ≤ maxLen := by decide
  refine ⟨hl.trans (belowK_b (w := w2) (n₀ := L) (by have := ho.lB; omega) W3 D _ _ hD hK rfl rfl), ?_, ?_, ?_⟩
  · rw [h5]
    exact hb.to (World.putObj_heap_other (by omega))
  · refine ho.keep fun b hl' hb' => ?_
    have hne : b ≠ B := fun e => by
      subst e
      rcases hb' with e | e | e
      · exact ho.bm e
      · exact ho.kB e
      · exact ho.vB e
    rw [World.putObj_heap_other (by omega), h3 b hne, hall b hl']
  · exact CurO.empty p (by omega) (by omega) (by omega) (by rw [h5]; decide) hL hf
theorem below_drB {L : Nat} {a b : World} (h : Below L a b) : Below L a b.drew := ⟨h.os, h.tape, h.output, h.size, h.block⟩
theorem info9p : (Tryz.prog.info? 9).map (fun i => (i.zero, i.size, i.bytes)) = some (some (.string ⟨#[]⟩), 1, 16) := by kernel_rfl
set_option maxHeartbeats 8000000 in
set_option maxRecDepth 100000 in
theorem pack_in (L B M : Nat) (out : List PkgT) (s : ByteArray) (hs : s.size ≤ 40000) (w : World) (hw : Calls Tryz.prog 13 #[.pointer (some ⟨B, 0, none⟩)] w (WholeP w L B M 0 out)) (hLB : L ≤ B ∧ B < w.heap.size) (hn : out.length < 200) :
    Calls Tryz.prog 17 #[.pointer (some ⟨B, 0, none⟩), .string s] w (PackP w L B M 0 out (bs s)) := by
  have HW := Lib.hid hw
  have e1 : ¬ (200 : Int) ≤ (out.length : Int) := by omega
  clear hw
  refine (callsIn_wide (n := 5)).1 ?_
  refine callsIn_of_wp_marks Tryz.func17 rfl trivial ?_ rfl
  simp only [Tryz.ntmps17, List.size_toArray, List.length_cons, List.length_nil, Nat.reduceAdd, Nat.reduceSub, Array.replicate_succ, Array.replicate_zero, List.push_toArray, List.append_toArray, List.nil_append, List.cons_append]
  gi_wp2_with fail
  refine ⟨trivial, ?_⟩
  refine (callsIn_wide.2 HW.out).mono ?_
  rintro e w2 ⟨rfl, hb, hx⟩
  obtain ⟨vo, K, z0, z1, z2, z3, z4, z5, z6, z7, z8, z9, z10, z11, has, hbx, ho⟩ := hx rfl
  obtain ⟨xs0, hr, _⟩ := ho.row
  obtain ⟨va, vc, rfl⟩ := ownsRow_slice hr
  have c0 := hbx.cell (j := 0) rfl
  have HB := Lib.hid hb
  have HBX := Lib.hid hbx
  have HO := Lib.hid ho
  clear hb hx hbx ho hr HW
  gi_wp2_with fail
  obtain ⟨w3, e3⟩ : ∃ w3, w2.alloc (.cells #[.slice none 0 0] 34) = w3 := ⟨_, rfl⟩
  have H3 : Hid (Below w2.heap.size w2 w3 ∧ BoxN w3 w2.heap.size [.slice none 0 0] 34 ∧ w3.heap.size = w2.heap.size + 1) := Lib.hid <| by
    rw [← e3]
    exact ⟨below1 _ _, boxN_alloc _ _ _, by simp⟩
  try rw [e3]
  clear c0 e3
  refine ⟨trivial, ?_⟩
  refine (callsIn_wide.2 (splitSeq_c s 32 w3)).mono ?_
  rintro e w5 ⟨rfl, hb5, hs5, hp5, hv5⟩
  have H5 : Hid (Below w3.heap.size w3 w5 ∧ BoxN w5 w2.heap.size [.slice none 0 0] 34 ∧ BoxN w5 w3.heap.size [.string s] 9 ∧ BoxN w5 (w3.heap.size + 1) [.string ⟨#[32]⟩] 9 ∧ BoxN w5 (w3.heap.size + 2) [.int .i64 0] 3) := Lib.hid ⟨hb5, H3.out.2.1.below hb5, hs5, hp5, hv5⟩
  clear hb5 hs5 hp5 hv5
  gi_wp2
  refine rangeS rfl (by decide) (gf := 126) (lb := #[.pointer (some ⟨w3.heap.size + 1, 0, none⟩), .pointer (some ⟨w3.heap.size, 0, none⟩), .pointer (some ⟨w3.heap.size + 2, 0, none⟩)]) rfl trivial (enters_of Tryz.func126 (by kernel_rfl) rfl)
    (b := w3.heap.size) (Kb := fun k => k = w3.heap.size + 1 ∨ k = w3.heap.size ∨ k = w3.heap.size + 2) ?hbw
    (split_seq _ (by decide) (w3.heap.size + 1) w3.heap.size (w3.heap.size + 2) 32 40000 s (by omega) hs (by omega) w5 H5.out.2.2.2.1 H5.out.2.2.1 H5.out.2.2.2.2) (Below.refl _ _) (fun _ => rfl)
    (PkI w5 w2.heap.size w3.heap.size) (fun _ _ _ => False) (PkI.own (Nat.le_refl _)) (fun c s A B row h _ _ => h) (PkI.set ?o3) ?h0 ?a1 ?assign ?body ?done ?stop
  case assign =>
    intro l x W K hK
    gi_wp2
    exact hK
  case hbw =>
    intro k hk
    have h1 := H5.out.2.2.1.lt
    have h2 := H5.out.2.2.2.1.lt
    have h3 := H5.out.2.2.2.2.lt
    rcases hk with rfl | rfl | rfl <;> assumption
  case o3 =>
    have h1 := H5.out.2.2.1.lt
    have h2 := H3.out.2.2
    exact ⟨h1, by omega⟩
  case h0 => exact ⟨⟨_, H5.out.2.1, World.ownsRow_nil _ _ _ _⟩, rfl, rfl, rfl, Nat.le_refl _, fun _ _ _ _ => rfl⟩
  case body =>
    rintro l pre ⟨x, hx4⟩ W hI hlen
    have HI := Lib.hid hI
    have hlen' := Lib.hid hlen
    clear hI hlen
    obtain ⟨v, hv1, hv2⟩ := HI.out.box
    obtain ⟨ua, uc, rfl⟩ := ownsRow_slice hv2
    have c7 := hv1.cell (j := 0) rfl
    have f7 := hv1.frozen 0
    have HV := Lib.hid (And.intro hv1 hv2)
    clear hv1 hv2
    have hsn := wordsP_snoc pre ⟨x, hx4⟩
    by_cases hx0 : bs x = []
    · have hxe : x = ⟨#[]⟩ := by
        have : mkB (bs x) = x := mkB_bs x
        rw [← this, hx0]
        rfl
      subst hxe
      rw [if_pos hx0] at hsn
      have HSN := Lib.hid hsn
      clear hsn hx0
      gi_wp2
      exact ⟨KeepsOthers.refl _, fun _ _ => rfl, ⟨⟨_, by first | exact HV.out.1 | (rw [HSN.out]; exact HV.out.1), by rw [HSN.out]; exact HV.out.2⟩, HI.out.os, HI.out.tape, HI.out.output, HI.out.sz, HI.out.keep⟩⟩
    · rw [if_neg hx0] at hsn
      have HSN := Lib.hid hsn
      have hne : (x.toList != ([] : List UInt8)) = true := by
        rw [Lib.toList_data]
        show (bs x != []) = true
        simpa using hx0
      have hne2 : (x.toList == ([] : List UInt8)) = false := by
        rw [Lib.toList_data]
        show (bs x == []) = false
        simpa using hx0
      have hne3 : x.toList.isEmpty = false := by
        rw [Lib.toList_data]
        show (bs x).isEmpty = false
        cases h : bs x with
        | nil => exact absurd h hx0
        | cons _ _ => rfl
      have hpl : (wordsP pre).length ≤ 40001 := by
        have h1 := wordsP_len pre
        have h2 := splitC_len 32 (bs s)
        have h3 := hlen'.out
        rw [bs_len] at h2
        omega
      have hlt := H5.out.2.1.lt
      have HRW := Lib.hid (ownsRow_below HV.out.2 (below1 W (.cells #[.string x] 9)))
      have hbl : w5.heap.size ≤ (W.alloc (.cells #[.string x] 9)).heap.size := Nat.le_trans HI.out.sz (by simp)
      obtain ⟨i0, hi9, hz90, hz91, hz92⟩ := info_parts info9p
      clear hsn hx0
      have HNL := Lib.hid (rfl : (wordsP pre).length = (wordsP pre).length)
      generalize hN : (wordsP pre).length = N at HV HRW hpl c7 
      replace hN := Lib.hid hN
      replace hlt := Lib.hid hlt
      gi_wp2_with (gi_at_builtin; refine wpListIn_append_own _ rfl (.tmp 24) (.tmp 26) 34 rfl w5.heap.size 9 i0 (.string ⟨#[]⟩) 1 16 Tryz.underlying34 hi9 hz90 hz91 hz92 rfl (by decide) (.slice ua N uc) N _ rfl HRW.out ⟨W.heap.size, 0, none⟩ 1 1 [.string x] rfl rfl (cell_one_new _ _ _) (by simp [Value.oneCell']) (by unfold maxLen; omega) (by omega) hbl ?_; intro v' w10 hown10 hgrow10 _; obtain ⟨va', vc', rfl⟩ := ownsRow_slice hown10; have k7 := (grow_box HV.out.1 HV.out.2 (below1 W _) hgrow10 hlt.out).cell (j := 0) rfl; have h7 := (grow_box HV.out.1 HV.out.2 (below1 W _) hgrow10 hlt.out).frozen 0)
      have hkeep : ∀ b, b < w5.heap.size → b ≠ w2.heap.size → (w10.setCell ⟨w2.heap.size, 0, none⟩ (.slice va' (N + 1) vc')).heap[b]? = W.heap[b]? := fun b hb hne => by
        have hz := HI.out.sz
        rw [set_other _ hne, hgrow10.block b (by simp; omega) (fun e => by have := (HV.out.2.lt b e.symm).1; omega)]
        exact (below1 W _).block b (by omega)
      have hlt' := hlt.out
      have h3s := H3.out.2.2
      refine ⟨?_, ?_, ⟨⟨.slice va' (N + 1) vc', ?_, ?_⟩, ?_, ?_, ?_, ?_, ?_⟩⟩
      · exact ((KeepsOthers.alloc _ _).trans (KeepsOthers.of_grownBy hgrow10 (own_cells HRW.out))).trans (KeepsOthers.setCell _ _ _)
      · have h4 := H5.out.2.2.2.2.lt
        exact ⟨hkeep _ (by omega) (by omega), hkeep _ (by omega) (by omega), hkeep _ (by omega) (by omega)⟩
      · exact (grow_box HV.out.1 HV.out.2 (below1 W _) hgrow10 hlt.out).set 0 _
      · rw [HSN.out, List.length_append, List.length_singleton, hN.out]
        have he : strsL (wordsP pre ++ [bs x]) = strsL (wordsP pre) ++ [.string x] := by
          unfold strsL
          rw [List.map_append, List.map_singleton]
          rfl
        rw [he]
        exact ownsRow_to hown10 (fun g hg => set_other _ (by have := (hown10.lt g hg).1; omega))
      · exact hgrow10.os.trans HI.out.os
      · exact hgrow10.tape.trans HI.out.tape
      · exact hgrow10.output.trans HI.out.output
      · rw [set_size]
        exact Nat.le_trans hbl hgrow10.size
      · intro b hb h1 h2
        exact (hkeep b hb h1).trans (HI.out.keep b hb h1 h2)
  case done =>
    rintro D xs W hD hxs hI hK
    have HI := Lib.hid hI
    have HK := Lib.hid hK
    have HD : Hid (w5.heap.size ≤ D) := Lib.hid hD
    have HF : Hid (wordsP xs = fieldsS (bs s)) := Lib.hid (by
      unfold wordsP fieldsS
      rw [hxs])
    have hsz : w.heap.size ≤ w2.heap.size := HB.out.size
    have h3s := H3.out.2.2
    have h5s := H5.out.1.size
    have hall : ∀ b, b < w2.heap.size → W.heap[b]? = w2.heap[b]? := fun b hb => by
      rw [HI.out.keep b (by omega) (by omega) (by omega), H5.out.1.block b (by omega), H3.out.1.block b hb]
    have HBW := Lib.hid (HBX.out.to (hall B (by omega)))
    have HALL := Lib.hid hall
    have HLW : Hid (Below L w W) := Lib.hid (HB.out.trans ⟨HI.out.os.trans (H5.out.1.os.trans H3.out.1.os), HI.out.tape.trans (H5.out.1.tape.trans H3.out.1.tape), HI.out.output.trans (H5.out.1.output.trans H3.out.1.output), by have := HI.out.sz; omega, fun b hb => hall b (by omega)⟩)
    obtain ⟨v, hv1, hv2⟩ := HI.out.box
    rw [HF.out] at hv2
    have HLT : Hid (B < w.heap.size ∧ L ≤ B ∧ w.heap.size ≤ w2.heap.size ∧ w3.heap.size = w2.heap.size + 1 ∧ w3.heap.size ≤ w5.heap.size ∧ w5.heap.size ≤ W.heap.size) := Lib.hid ⟨hLB.2, hLB.1, hsz, h3s, h5s, HI.out.sz⟩
    clear hxs hI hK hD hall hsz h3s h5s HBX
    by_cases h4 : (fieldsS (bs s)).length = 4
    · obtain ⟨a, b, c, d, hF4⟩ : ∃ a b c d, fieldsS (bs s) = [a, b, c, d] := by
        match h : fieldsS (bs s), h4 with
        | [a, b, c, d], _ => exact ⟨a, b, c, d, rfl⟩
      rw [hF4] at hv2
      have hv3 : W.ownsRow w5.heap.size 9 1 v 4 [.string (mkB a), .string (mkB b), .string (mkB c), .string (mkB d)] := hv2
      rcases ownsRow_form hv3 with ⟨_, h0⟩ | ⟨g, cap, rfl, hcap, _⟩
      · omega
      have hg := hv3.lt g rfl
      have HLC : Hid (∀ W' : World, (∀ b', b' ≠ B → W'.heap[b']? = W.heap[b']?) → W'.cell? ⟨w2.heap.size, 0, none⟩ = some (.slice (some ⟨g, 0, none⟩) 4 cap) ∧ W'.cell? ⟨g, 0, none⟩ = some (.string (mkB a)) ∧ W'.cell? ⟨g, 1, none⟩ = some (.string (mkB b)) ∧ W'.cell? ⟨g, 2, none⟩ = some (.string (mkB c)) ∧ W'.cell? ⟨g, 3, none⟩ = some (.string (mkB d))) := Lib.hid fun W' hW' => by
        have hl := HLT.out
        have hv4 := ownsRow_to hv3 (w' := W') fun g' hg' => hW' g' (by have := (hv3.lt g' hg').1; omega)
        exact ⟨(hv1.to (hW' _ (by omega))).cell (j := 0) rfl, ownsRow_cell hv4 (j := 0) rfl, ownsRow_cell hv4 (j := 1) rfl, ownsRow_cell hv4 (j := 2) rfl, ownsRow_cell hv4 (j := 3) rfl⟩
      have HF4 := Lib.hid hF4
      have HKD : ∀ V : World, (∀ b', b' ≠ B → V.heap[b']? = W.heap[b']?) → V.heap[D]? = some (.deferred (some [])) := fun V hV => (hV D (by have := HLT.out; have := HD.out; omega)).trans HK.out
      replace HKD := Lib.hid HKD
      have HSM : Hid ((mkB a).size ≤ 40001 ∧ (mkB b).size ≤ 40001 ∧ (mkB c).size ≤ 40001 ∧ (mkB d).size ≤ 40001) := Lib.hid (by
        have hm : ∀ x ∈ fieldsS (bs s), (mkB x).size ≤ 40001 := fun x hx => by
          rw [← HF.out] at hx
          unfold wordsP at hx
          have h1 := (List.mem_filter.1 hx).1
          obtain ⟨y, _, rfl⟩ := List.mem_map.1 h1
          show (bs y.1).length ≤ 40001
          rw [bs_len]
          have := y.2
          omega
        rw [hF4] at hm
        exact ⟨hm a (by simp), hm b (by simp), hm c (by simp), hm d (by simp)⟩)
      obtain ⟨c7, _, _, _, _⟩ := HLC.out W (fun _ _ => rfl)
      have b13 := HBW.out.cell (j := 13) rfl
      have g13 := HBW.out.frozen 13
      clear h4 hv1 hv2 hv3 hF4 hcap
      gi_wp2
      obtain ⟨W1, e1w⟩ : ∃ W1, W.setCell ⟨B, 13, none⟩ (.bool true) = W1 := ⟨_, rfl⟩
      have HB1 : Hid (BoxN W1 B [.slice va out.length vc, z0, z1, z2, z3, z4, z5, z6, z7, z8, z9, z10, z11, .bool true, .map (some M)] 41) := Lib.hid (by
        rw [← e1w]
        exact HBW.out.set 13 _)
      have HO1 : Hid (∀ b', b' ≠ B → W1.heap[b']? = W.heap[b']?) := Lib.hid fun b' hb' => by
        rw [← e1w]
        exact set_other _ hb'
      have HL1 : Hid (Below L W W1) := Lib.hid (by
        rw [← e1w]
        exact below_sc (Below.refl _ _) (by have := HLT.out; omega) _ _)
      rw [e1w]
      clear c7 b13 g13 e1w
      have HQ : Hid (∀ V : World, V.heap = W1.heap → V.cell? ⟨w2.heap.size, 0, none⟩ = some (.slice (some ⟨g, 0, none⟩) 4 cap) ∧ V.cell? ⟨g, 0, none⟩ = some (.string (mkB a)) ∧ V.cell? ⟨g, 1, none⟩ = some (.string (mkB b)) ∧ V.cell? ⟨g, 2, none⟩ = some (.string (mkB c)) ∧ V.cell? ⟨g, 3, none⟩ = some (.string (mkB d))) := Lib.hid fun V hV => HLC.out V fun b' hb' => by rw [hV]; exact HO1.out b' hb'
      have hcap4 : (4 : Int) ≤ (cap : Int) ∨ True := .inr trivial
      refine wpIn_wide.2 (wp_noPanic ?_)
      refine wp_region_ord (fun V => V.heap = W1.heap) 13 [(true, 0), (true, 1), (true, 2), (true, 3), (true, 4), (true, 5), (true, 6), (true, 7), (true, 8), (true, 9), (true, 10), (false, 11), (true, 12), (false, 13)] (by kernel_rfl) (by kernel_rfl) (fun _ _ _ _ _ h => h.elim) rfl ?_
      intro wd hwd hS
      simp only [ordOps, List.map_cons, List.map_nil, Array.getD_eq_getD_getElem?, List.getElem?_toArray, List.getElem?_cons_succ, List.getElem?_cons_zero, Option.getD_some]
      iterate 11 (refine wpOrd_q rfl _ (fun w' hS' K hK => (by obtain ⟨c7, r0, r1, r2, r3⟩ := HQ.out w' hS'; clear hS'; go_simp; exact hK)) (fun K hK => ?_); go_simp; refine hK _ ?_; clear hK K)
      refine wpOrd_l rfl (fun K hK => ?_)
      go_simp
      refine hK _ _ ⟨fun _ => hS, ?_⟩
      clear hK K
      refine wpOrd_q rfl _ (fun w' hS' K hK => (by obtain ⟨c7, r0, r1, r2, r3⟩ := HQ.out w' hS'; clear hS'; go_simp; exact hK)) (fun K hK => ?_); go_simp; refine hK _ ?_; clear hK K
      have HBd := Lib.hid (HB1.out.to (W' := wd) (by rw [hS]))
      have HSd := Lib.hid hS
      have HWd : Hid (wd = W1.drew) := hwd
      clear hS hwd
      have p1 := HBd.out.cell (j := 1) rfl
      have f1 := HBd.out.frozen 1
      have p2 := HBd.out.cell (j := 2) rfl
      have f2 := HBd.out.frozen 2
      have p3 := HBd.out.cell (j := 3) rfl
      have f3 := HBd.out.frozen 3
      have p4 := HBd.out.cell (j := 4) rfl
      have f4 := HBd.out.frozen 4
      have p5 := HBd.out.cell (j := 5) rfl
      have f5 := HBd.out.frozen 5
      have p6 := HBd.out.cell (j := 6) rfl
      have f6 := HBd.out.frozen 6
      have p7 := HBd.out.cell (j := 7) rfl
      have f7 := HBd.out.frozen 7
      have p8 := HBd.out.cell (j := 8) rfl
      have f8 := HBd.out.frozen 8
      have p9 := HBd.out.cell (j := 9) rfl
      have f9 := HBd.out.frozen 9
      have p10 := HBd.out.cell (j := 10) rfl
      have f10 := HBd.out.frozen 10
      have p11 := HBd.out.cell (j := 11) rfl
      have f11 := HBd.out.frozen 11
      have p12 := HBd.out.cell (j := 12) rfl
      have f12 := HBd.out.frozen 12
      refine wpOrd_l rfl (fun K hK => ?_)
      go_simp
      refine hK _ _ ⟨fun h => absurd rfl h, ?_⟩
      clear hK K
      refine wpOrd_nil ?_
      clear p1 p2 p3 p4 p5 p6 p7 p8 p9 p10 p11 p12 f1 f2 f3 f4 f5 f6 f7 f8 f9 f10 f11 f12
      have HLd : Hid (Below L w wd) := Lib.hid (by rw [HWd.out]; exact below_drB (HLW.out.trans HL1.out))
      obtain ⟨W2, e2w⟩ : ∃ W2, ((((((((((((wd.setCell ⟨B, 1, none⟩ (.string (mkB a))).setCell ⟨B, 2, none⟩ (.string (mkB b))).setCell ⟨B, 3, none⟩ (.string (mkB d))).setCell ⟨B, 4, none⟩ (.string ⟨#[]⟩)).setCell ⟨B, 5, none⟩ (.slice none 0 0)).setCell ⟨B, 6, none⟩ (.slice none 0 0)).setCell ⟨B, 7, none⟩ (.slice none 0 0)).setCell ⟨B, 8, none⟩ (.slice none 0 0)).setCell ⟨B, 9, none⟩ (.slice none 0 0)).setCell ⟨B, 10, none⟩ (.slice none 0 0)).setCell ⟨B, 11, none⟩ (.slice none 0 0)).setCell ⟨B, 12, none⟩ (.slice none 0 0)) = W2 := ⟨_, rfl⟩
      have HB2 : Hid (BoxN W2 B [.slice va out.length vc, .string (mkB a), .string (mkB b), .string (mkB d), .string ⟨#[]⟩, .slice none 0 0, .slice none 0 0, .slice none 0 0, .slice none 0 0, .slice none 0 0, .slice none 0 0, .slice none 0 0, .slice none 0 0, .bool true, .map (some M)] 41) := Lib.hid (by
        rw [← e2w]
        exact ((((((((((((HBd.out.set 1 (.string (mkB a))).set 2 (.string (mkB b))).set 3 (.string (mkB d))).set 4 (.string ⟨#[]⟩)).set 5 (.slice none 0 0)).set 6 (.slice none 0 0)).set 7 (.slice none 0 0)).set 8 (.slice none 0 0)).set 9 (.slice none 0 0)).set 10 (.slice none 0 0)).set 11 (.slice none 0 0)).set 12 (.slice none 0 0)))
      have HO2 : Hid (∀ b', b' ≠ B → W2.heap[b']? = W.heap[b']?) := Lib.hid fun b' hb' => by
        rw [← e2w]
        iterate 12 (refine (set_other _ hb').trans ?_)
        rw [HSd.out]
        exact HO1.out b' hb'
      have HL2 : Hid (Below L w W2) := Lib.hid (by
        rw [← e2w]
        iterate 12 (refine below_sc ?_ HLT.out.2.1 _ _)
        exact HLd.out)
      simp only [noPanic]
      rw [e2w]
      clear e2w
      obtain ⟨c7, r0, r1, r2, r3⟩ := HLC.out W2 HO2.out
      by_cases h45 : c = [45]
      · subst h45
        have q3 : ((mkB [45]).toList == ([45] : List UInt8)) = true := by
          rw [Lib.toList_data]
          rfl
        have q4 : ((mkB [45]).toList != ([45] : List UInt8)) = false := by
          rw [Lib.toList_data]
          rfl
        gi_wp2
        refine ⟨by simp, .inl ⟨_, _, rfl, run_takeDeferred (HKD.out W2 HO2.out), ?_⟩⟩
        refine ⟨.int .i64 0, by simp [results, Tryz.f17, go_sem], ?_⟩
        obtain ⟨m1, m2, m3, m4⟩ := HSM.out
        obtain ⟨f1, f2⟩ := pack_fin HO.out HALL.out HO2.out HL2.out (by have := HLT.out; have := HD.out; omega) (by have := HLT.out; have := HD.out; omega) (by have := HLT.out; omega) (HKD.out W2 HO2.out) _ HB2.out (newSP a b [45] d) rfl (by unfold newSP; rw [if_pos rfl]) rfl rfl (fun _ => rfl) rfl (by omega) (by omega) (by omega)
        exact ⟨f1, .inr (.inr (.inr ⟨rfl, hn, a, b, [45], d, HF4.out, rfl, K, _, f2⟩))⟩
      · have q3 : ((mkB c).toList == ([45] : List UInt8)) = false := by
          rw [Lib.toList_data]
          show (c == [45]) = false
          simpa using h45
        have q4 : ((mkB c).toList != ([45] : List UInt8)) = true := by
          rw [Lib.toList_data]
          show (c != [45]) = true
          simpa using h45
        gi_wp2
        refine wpIn_wide.2 (wp_noPanic ?_)
        have HQ2 : Hid (∀ V : World, V.heap = W2.heap → V.cell? ⟨w2.heap.size, 0, none⟩ = some (.slice (some ⟨g, 0, none⟩) 4 cap) ∧ V.cell? ⟨g, 2, none⟩ = some (.string (mkB c)) ∧ V.cell? ⟨B, 2, none⟩ = some (.string (mkB b)) ∧ V.frozen? ⟨B, 2, none⟩ = false) := Lib.hid fun V hV => by
          have h1 := HLC.out V fun b' hb' => by rw [hV]; exact HO2.out b' hb'
          have h2 := HB2.out.to (W' := V) (by rw [hV])
          exact ⟨h1.1, h1.2.2.2.1, h2.cell (j := 2) rfl, h2.frozen 2⟩
        clear c7 r0 r1 r2 r3 q3 q4
        have z1 : ¬ 9223372036854775807 < 1 + (mkB c).size := by have := HSM.out; omega
        have z2 : ¬ 9223372036854775807 < (mkB b).size + (1 + (mkB c).size) := by have := HSM.out; omega
        have z3 : ¬ 9223372036854775807 < (mkB b).size + ((⟨#[45]⟩ : ByteArray) ++ mkB c).size := by
          rw [ByteArray.size_append]
          exact z2
        refine wp_region_ord (fun V => V.heap = W2.heap) 13 [(true, 0), (true, 1), (true, 2), (true, 3), (true, 4), (true, 5), (true, 6), (true, 7), (true, 8), (true, 9), (false, 10), (false, 11), (false, 12), (false, 13)] (by kernel_rfl) (by kernel_rfl) (fun _ _ _ _ _ h => h.elim) rfl ?_
        intro we hwe hS
        simp only [ordOps, List.map_cons, List.map_nil, Array.getD_eq_getD_getElem?, List.getElem?_toArray, List.getElem?_cons_succ, List.getElem?_cons_zero, Option.getD_some]
        iterate 10 (refine wpOrd_q rfl _ (fun w' hS' K hK => (by obtain ⟨c7, r0, r1, r2⟩ := HQ2.out w' hS'; clear hS'; go_simp; exact hK)) (fun K hK => ?_); go_simp; refine hK _ ?_; clear hK K)
        iterate 3 (refine wpOrd_l rfl (fun K hK => ?_); go_simp; refine hK _ _ ⟨fun _ => hS, ?_⟩; clear hK K)
        obtain ⟨c7, r0, r1, r2⟩ := HQ2.out we hS
        refine wpOrd_l rfl (fun K hK => ?_)
        go_simp
        refine hK _ _ ⟨fun h => absurd rfl h, ?_⟩
        clear hK K c7 r0 r1 r2
        refine wpOrd_nil ?_
        simp only [noPanic]
        obtain ⟨W5, e5w⟩ : ∃ W5, we.setCell ⟨B, 2, none⟩ (.string (mkB b ++ ((⟨#[45]⟩ : ByteArray) ++ mkB c))) = W5 := ⟨_, rfl⟩
        rw [e5w]
        have hev : mkB b ++ ((⟨#[45]⟩ : ByteArray) ++ mkB c) = mkB (b ++ 45 :: c) := by
          rw [← mkB_bs (mkB b ++ ((⟨#[45]⟩ : ByteArray) ++ mkB c))]
          congr 1
        have HB5 : Hid (BoxN W5 B [.slice va out.length vc, .string (mkB a), .string (mkB (b ++ 45 :: c)), .string (mkB d), .string ⟨#[]⟩, .slice none 0 0, .slice none 0 0, .slice none 0 0, .slice none 0 0, .slice none 0 0, .slice none 0 0, .slice none 0 0, .slice none 0 0, .bool true, .map (some M)] 41) := Lib.hid (by
          rw [← e5w, hev]
          exact (HB2.out.to (W' := we) (by rw [hS])).set 2 _)
        have HO5 : Hid (∀ b', b' ≠ B → W5.heap[b']? = W.heap[b']?) := Lib.hid fun b' hb' => by
          rw [← e5w]
          refine (set_other _ hb').trans ?_
          rw [hS]
          exact HO2.out b' hb'
        have HL5 : Hid (Below L w W5) := Lib.hid (by
          rw [← e5w]
          refine below_sc ?_ HLT.out.2.1 _ _
          rw [hwe.out]
          exact below_drB HL2.out)
        clear e5w hS hwe z1 z2 z3 hev
        gi_wp2
        refine ⟨by simp, .inl ⟨_, _, rfl, run_takeDeferred (HKD.out W5 HO5.out), ?_⟩⟩
        refine ⟨.int .i64 0, by simp [results, Tryz.f17, go_sem], ?_⟩
        obtain ⟨m1, m2, m3, m4⟩ := HSM.out
        have hme : (mkB (b ++ 45 :: c)).size ≤ 200000 := by
          show (b ++ 45 :: c).length ≤ 200000
          have e2 : (mkB b).size = b.length := rfl
          have e3 : (mkB c).size = c.length := rfl
          rw [List.length_append, List.length_cons]
          omega
        obtain ⟨f1, f2⟩ := pack_fin HO.out HALL.out HO5.out HL5.out (by have := HLT.out; have := HD.out; omega) (by have := HLT.out; have := HD.out; omega) (by have := HLT.out; omega) (HKD.out W5 HO5.out) _ HB5.out (newSP a b c d) rfl (by unfold newSP; rw [if_neg h45]) rfl rfl (fun _ => rfl) rfl (by omega) hme (by omega)
        exact ⟨f1, .inr (.inr (.inr ⟨rfl, hn, a, b, c, d, HF4.out, rfl, K, _, f2⟩))⟩
    · have HN4 := Lib.hid h4
      obtain ⟨ua, uc, rfl⟩ := ownsRow_slice hv2
      have c7 := hv1.cell (j := 0) rfl
      have q1 : (((fieldsS (bs s)).length : Int) == 4) = false := by
        rw [beq_eq_false_iff_ne]
        omega
      have q2 : (((fieldsS (bs s)).length : Int) != 4) = true := by
        rw [bne_iff_ne]
        omega
      clear h4 hv1 hv2
      gi_wp2
      refine ⟨by simp, .inl ⟨_, _, rfl, run_takeDeferred HK.out, ?_⟩⟩
      refine ⟨.int .i64 130, by simp [results, Tryz.f17, go_sem], ?_⟩
      exact ⟨HLW.out.trans (belowK_b (w := w5) (by have := HLT.out; omega) W D _ _ HD.out HK.out rfl rfl), .inr (.inr (.inl ⟨rfl, hn, HN4.out, rfl⟩))⟩
  case stop =>
    rintro D c pre W hD hpre hX hK
    exact hX.elim
end Go.Proofs.YtjcefgjgjhdbpaaGreatDoor
namespace Go.Proofs.YtjcefgjgjhdbpaaGreatDoor
set_option linter.unusedVariables false
set_option linter.unusedSimpArgs false
open Go.RowKit Go.Maps

/-- The reader in memory; no list is longer than n. -/
def RdSt (w : World) (L B M : Nat) (st : SSt) (n : Nat) : Prop :=
  ∃ K p vo v vf, Rdr w L B M K st.out p st.cur.isSome vo v vf ∧ (∀ q, st.cur = some q → q = p) ∧ (∀ i, (p.L i).length ≤ n) ∧ p.files.length ≤ n ∧ st.out.length ≤ 200
theorem RdSt.below {w w' : World} {L B M : Nat} {st : SSt} {n : Nat} (h : RdSt w L B M st n) (hb : Below w.heap.size w w') : RdSt w' L B M st n := by
  obtain ⟨K, p, vo, v, vf, h1, h2⟩ := h
  exact ⟨K, p, vo, v, vf, h1.below hb, h2⟩
theorem RdSt.more {w : World} {L B M : Nat} {st : SSt} {n m : Nat} (h : RdSt w L B M st n) (hm : n ≤ m) : RdSt w L B M st m := by
  obtain ⟨K, p, vo, v, vf, h1, h2, h3, h4, h5⟩ := h
  exact ⟨K, p, vo, v, vf, h1, h2, fun i => Nat.le_trans (h3 i) hm, Nat.le_trans h4 hm, h5⟩
theorem RdSt.lt {w : World} {L B M : Nat} {st : SSt} {n : Nat} (h : RdSt w L B M st n) : L ≤ B ∧ B < w.heap.size := by
  obtain ⟨K, p, vo, v, vf, h1, _⟩ := h
  exact ⟨h1.outs.lB, h1.box.lt⟩
/-- The end of a package. -/
theorem whole_c {w : World} {L B M : Nat} {st : SSt} {n : Nat} (h : RdSt w L B M st n) (hn : n ≤ 1000000) : Calls Tryz.prog 13 #[.pointer (some ⟨B, 0, none⟩)] w (WholeP w L B M (wholeS st).2 (wholeS st).1) := by
  obtain ⟨K, p, vo, v, vf, h1, h2, h3, h4, h5⟩ := h
  obtain ⟨out, cur⟩ := st
  cases cur with
  | none =>
    have h1 : Rdr w L B M K out p false vo v vf := h1
    refine (whole_no B _ w h1.box rfl).mono ?_
    rintro e w' ⟨rfl, rfl⟩
    exact ⟨rfl, Below.refl _ _, fun _ => ⟨vo, K, _, _, _, _, _, _, _, _, _, _, _, _, _, h1.box, h1.outs⟩⟩
  | some q =>
    obtain rfl : q = p := h2 q rfl
    have h1 : Rdr w L B M K out q true vo v vf := h1
    have hw := whole_some (st := ⟨out, some q⟩) rfl
    rw [hw]
    by_cases hc : pkgCheck q.pkg = 0
    · rw [if_pos hc]
      refine (whole_ok L B M K out q vo v vf w h1 (fun i => Nat.le_trans (h3 i) hn) (Nat.le_trans h4 hn) (by have : out.length ≤ 200 := h5; omega) hc).mono ?_
      rintro e w' ⟨rfl, hb, vo', hbx, ho⟩
      exact ⟨rfl, hb, fun _ => ⟨vo', _, _, _, _, _, _, _, _, _, _, _, _, _, _, hbx, ho⟩⟩
    · rw [if_neg hc]
      refine (whole_bad L B M K out q vo v vf w h1 (fun i => Nat.le_trans (h3 i) hn) (Nat.le_trans h4 hn) hc).mono ?_
      rintro e w' ⟨rfl, hb⟩
      exact ⟨rfl, below_to hb (by have := h1.outs.lB; have := h1.box.lt; omega), fun h => absurd h hc⟩
/-- What a step of the reader answers. -/
def StepP (w : World) (L B M : Nat) (r : SRes) (n : Nat) (e : Ending) (w' : World) : Prop :=
  Below L w w' ∧ match r with
    | .err x => e = .returned (.int .i64 x)
    | .ok st => e = .returned (.int .i64 0) ∧ RdSt w' L B M st n
theorem four_not (f : Wd → Wd → Wd → Wd → SRes) (l : List Wd) (h : l.length ≠ 4) : (match l with
    | [a, b, c, d] => f a b c d
    | _ => .err 130) = .err 130 := by
  match l, h with
  | [], _ => rfl
  | [_], _ => rfl
  | [_, _], _ => rfl
  | [_, _, _], _ => rfl
  | [_, _, _, _], h => exact absurd rfl h
  | _ :: _ :: _ :: _ :: _ :: _, _ => rfl
/-- suse's pack. -/
theorem pack_c {w : World} {L B M : Nat} {st : SSt} {n : Nat} (h : RdSt w L B M st n) (hn : n ≤ 1000000) (s : ByteArray) (hs : s.size ≤ 40000) : Calls Tryz.prog 17 #[.pointer (some ⟨B, 0, none⟩), .string s] w (StepP w L B M (packS st (bs s)) 0) := by
  have hw := whole_c h hn
  have hl := h.lt
  unfold packS
  generalize (wholeS st).1 = out at hw ⊢
  generalize (wholeS st).2 = E at hw ⊢
  by_cases hE : E = 0
  · subst hE
    rw [if_neg (by simp)]
    by_cases h2 : 200 ≤ out.length
    · rw [if_pos h2]
      refine (pack_many L B M out s w hw h2).mono ?_
      rintro e w' ⟨hb, h | h | h | h⟩
      · exact absurd rfl h.1
      · exact ⟨hb, h.2.2⟩
      · omega
      · omega
    · rw [if_neg h2]
      refine (pack_in L B M out s hs w hw hl (by omega)).mono ?_
      rintro e w' ⟨hb, h | h | h | h⟩
      · exact absurd rfl h.1
      · omega
      · have h5 := four_not (fun a b c d => .ok ⟨out, some (newSP a b c d)⟩) _ h.2.2.1
        exact (congrArg (fun r => StepP w L B M r 0 e w') h5).mpr ⟨hb, h.2.2.2⟩
      · obtain ⟨_, _, a, b, c, d, h4, he, K, vo, hr⟩ := h
        refine ⟨hb, ?_⟩
        rw [h4]
        refine ⟨he, K, newSP a b c d, vo, _, _, hr, fun q hq => (Option.some.inj hq).symm, fun i => Nat.le_refl _, Nat.le_refl _, ?_⟩
        show out.length ≤ 200
        omega
  · rw [if_pos hE]
    refine (pack_err L B M E out s w hw hE).mono ?_
    rintro e w' ⟨hb, h | h | h | h⟩
    · exact ⟨hb, h.2⟩
    · exact absurd h.1 hE
    · exact absurd h.1 hE
    · exact absurd h.1 hE
end Go.Proofs.YtjcefgjgjhdbpaaGreatDoor
