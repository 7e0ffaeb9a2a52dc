/-
  The document's reader: a value is taken; a package begins. Helper text (printed by gen_rrdE.py); the conditions are those typed.
  The document's reader: a line; a block. Helper text (printed by gen_rrdF.py); the conditions are those typed.
-/
import Derived.Test.YtjcefgjgjhdbpaaGreatDoorRRdD
import Derived.Test.YtjcefgjgjhdbpaaGreatDoorParB
import Derived.Test.YtjcefgjgjhdbpaaGreatDoorAwake
import Derived.Deep.Cut
import Derived.Deep.CutRange
import Derived.Deep.LoopGhost
namespace Go.Proofs.YtjcefgjgjhdbpaaGreatDoor
set_option linter.unusedVariables false
set_option linter.unusedSimpArgs false
open Go.RowKit Go.Maps
variable {X : Obj}

theorem list_is {t : Wd} {i : Fin 7} (h : listOf t = some i) : t = tagsW.getD i.val [] := by
  unfold listOf at h
  repeat' split at h
  all_goals first | (injection h with h; subst h; assumption) | cases h
theorem rput_bad (B : Nat) (i : Fin 7) (t x : ByteArray) (hti : listOf (bs t) = some i) (hx : x.size ≤ 1099511627776) (hd : (depParse x).2 ≠ 0) (w : World) :
    Calls Tryz.prog 57 #[.pointer (some ⟨B, 0, none⟩), .string t, .string x] w fun e w' => e = .returned (.int .i64 130) ∧ Below w.heap.size w w' := by
  have ht : t = mkB (tagsW.getD i.val []) := by rw [← list_is hti, mkB_bs]
  subst ht
  clear hti
  match i with
  | 0 => exact rput_bad0 B x hx hd w
  | 1 => exact rput_bad1 B x hx hd w
  | 2 => exact rput_bad2 B x hx hd w
  | 3 => exact rput_bad3 B x hx hd w
  | 4 => exact rput_bad4 B x hx hd w
  | 5 => exact rput_bad5 B x hx hd w
  | 6 => exact rput_bad6 B x hx hd w
theorem rput_one (L B M : Nat) (K : Nat → Prop) (out : List PkgT) (p : SP) (vo : Value) (v : Fin 7 → Value) (vf : Value) (i : Fin 7) (t x : ByteArray) (hti : listOf (bs t) = some i) (hx : x.size ≤ 1099511627776) (d : DepT) (hd : depParse x = (d, 0)) (hn : (p.L i).length ≤ 1000000) (w : World) (h : RdR X w L B M K out p true vo v vf) :
    Calls Tryz.prog 57 #[.pointer (some ⟨B, 0, none⟩), .string t, .string x] w fun e w' => e = .returned (.int .i64 0) ∧ Below L w w' ∧ ∃ K' v', RdR X w' L B M K' out (p.add i d) true vo v' vf := by
  have ht : t = mkB (tagsW.getD i.val []) := by rw [← list_is hti, mkB_bs]
  subst ht
  clear hti
  match i, hn with
  | 0, hn => exact rput_one0 L B M K out p vo v vf x hx d hd hn w h
  | 1, hn => exact rput_one1 L B M K out p vo v vf x hx d hd hn w h
  | 2, hn => exact rput_one2 L B M K out p vo v vf x hx d hd hn w h
  | 3, hn => exact rput_one3 L B M K out p vo v vf x hx d hd hn w h
  | 4, hn => exact rput_one4 L B M K out p vo v vf x hx d hd hn w h
  | 5, hn => exact rput_one5 L B M K out p vo v vf x hx d hd hn w h
  | 6, hn => exact rput_one6 L B M K out p vo v vf x hx d hd hn w h
/-- suse's put. -/
theorem rput_c {w : World} {L B M : Nat} {st : SSt} {n : Nat} (h : RdRt X w L B M st n) (hc : st.cur.isSome = true) (hn : n ≤ 1000000) (t x : ByteArray) (ht : t.size ≤ 40000) (hx : x.size ≤ 40000) :
    Calls Tryz.prog 57 #[.pointer (some ⟨B, 0, none⟩), .string t, .string x] w (StepR X w L B M (putS st (bs t) (bs x)) (n + 1)) := by
  obtain ⟨K, p, vo, v, vf, h1, h2, h3, h4, h5⟩ := h
  obtain ⟨out, cur⟩ := st
  have hm : 40000 ≤ maxLen := by decide
  cases cur with
  | none => cases hc
  | some q =>
    obtain rfl : q = p := h2 q rfl
    have h1 : RdR X w L B M K out q true vo v vf := h1
    have h5 : out.length ≤ 200 := h5
    have hlw : L ≤ w.heap.size := Nat.le_trans h1.outs.lB (Nat.le_of_lt h1.box.lt)
    unfold putS putP
    simp only
    by_cases e1 : bs t = vndW
    · rw [if_pos e1]
      have et : t = ⟨#[86, 110, 100]⟩ := by rw [← mkB_bs t, e1]; rfl
      subst et
      refine (rput_vnd L B M K out q vo v vf x (by omega) w h1).mono ?_
      rintro e w' ⟨rfl, hb, hr⟩
      refine ⟨hb, rfl, K, _, vo, v, vf, hr, fun q' hq => ?_, fun i => Nat.le_trans (h3 i) (by omega), Nat.le_trans h4 (by omega), h5⟩
      exact (Option.some.inj hq).symm
    · rw [if_neg e1]
      by_cases e2 : bs t = flsW
      · rw [if_pos e2]
        have et : t = ⟨#[70, 108, 115]⟩ := by rw [← mkB_bs t, e2]; rfl
        subst et
        refine (rput_fls L B M K out q vo v vf x (by omega) (by omega) w h1).mono ?_
        rintro e w' ⟨rfl, hb, vf', hr⟩
        refine ⟨hb, rfl, K, _, vo, v, vf', hr, fun q' hq => ?_, fun i => Nat.le_trans (h3 i) (by omega), ?_, h5⟩
        · exact (Option.some.inj hq).symm
        · show (q.files ++ [mkB (trimT (bs x))]).length ≤ n + 1
          rw [List.length_append, List.length_singleton]
          omega
      · rw [if_neg e2]
        rcases listOf_no e1 e2 with e3 | ⟨i, e3⟩
        · rw [e3]
          refine (rput_no B t x e1 e2 e3 w).mono ?_
          rintro e w' ⟨rfl, rfl⟩
          exact ⟨Below.refl _ _, rfl, K, q, vo, v, vf, h1, fun q' hq => (Option.some.inj hq).symm, fun i => Nat.le_trans (h3 i) (by omega), Nat.le_trans h4 (by omega), h5⟩
        · rw [e3]
          simp only [mkB_bs]
          by_cases e4 : (depParse x).2 = 0
          · simp only [ne_eq, e4, not_true_eq_false, ↓reduceIte]
            have hd : depParse x = ((depParse x).1, 0) := by rw [← e4]
            refine (rput_one L B M K out q vo v vf i t x e3 (by omega) (depParse x).1 hd (Nat.le_trans (h3 i) hn) w h1).mono ?_
            rintro e w' ⟨rfl, hb, K', v', hr⟩
            refine ⟨hb, rfl, K', _, vo, v', vf, hr, fun q' hq => (Option.some.inj hq).symm, fun j => ?_, Nat.le_trans h4 (by omega), h5⟩
            by_cases ej : j = i
            · subst ej
              rw [add_L, List.length_append, List.length_singleton]
              have := h3 j
              omega
            · rw [add_Lne _ _ ej]
              exact Nat.le_trans (h3 j) (by omega)
          · simp only [ne_eq, e4, not_false_eq_true, ↓reduceIte]
            refine (rput_bad B i t x e3 (by omega) e4 w).mono ?_
            rintro e w' ⟨rfl, hb⟩
            exact ⟨below_to hb hlw, rfl⟩
def PackR (X : Obj) (w : World) (L B M : Nat) (E : Int) (out : List PkgT) (s : List UInt8) (e : Ending) (w' : World) : Prop :=
  Below L w w' ∧ ((E ≠ 0 ∧ e = .returned (.int .i64 E)) ∨ (E = 0 ∧ 200 ≤ out.length ∧ e = .returned (.int .i64 131)) ∨ (E = 0 ∧ out.length < 200 ∧ (fieldsS s).length ≠ 4 ∧ e = .returned (.int .i64 130)) ∨
    (E = 0 ∧ out.length < 200 ∧ ∃ a b c d, fieldsS s = [a, b, c, d] ∧ e = .returned (.int .i64 0) ∧ ∃ K vo, RdR X w' L B M K out (newSP a b c d) true vo (fun _ => .slice none 0 0) (.slice none 0 0)))
set_option maxHeartbeats 1000000 in
theorem rpkg_err (L B M : Nat) (E : Int) (out : List PkgT) (s : ByteArray) (w : World) (hw : Calls Tryz.prog 26 #[.pointer (some ⟨B, 0, none⟩)] w (WholeR X w L B M E out)) (hE : E ≠ 0) :
    Calls Tryz.prog 56 #[.pointer (some ⟨B, 0, none⟩), .string s] w (PackR X w L B M E out (bs s)) := by
  have HW := Lib.hid hw
  have e1 : (E == 0) = false := by simpa using hE
  have e2 : (E != 0) = true := by simpa using hE
  clear hw
  go_enter Tryz.func56, Tryz.ntmps56
  go_wp2_with fail
  refine HW.out.mono ?_
  rintro e w' ⟨rfl, hb, _⟩
  have HB := Lib.hid hb
  clear hb
  go_wp2_with fail
  go_ret
  exact ⟨HB.out, .inl ⟨hE, rfl⟩⟩
set_option maxHeartbeats 1000000 in
theorem rpkg_many (L B M : Nat) (out : List PkgT) (s : ByteArray) (w : World) (hw : Calls Tryz.prog 26 #[.pointer (some ⟨B, 0, none⟩)] w (WholeR X w L B M 0 out)) (hn : 200 ≤ out.length) :
    Calls Tryz.prog 56 #[.pointer (some ⟨B, 0, none⟩), .string s] w (PackR X w L B M 0 out (bs s)) := by
  have HW := Lib.hid hw
  have e1 : (200 : Int) ≤ (out.length : Int) := by omega
  clear hw
  go_enter Tryz.func56, Tryz.ntmps56
  go_wp2_with fail
  refine HW.out.mono ?_
  rintro e w' ⟨rfl, hb, hx⟩
  obtain ⟨vo, K, z0, z1, z2, z3, z4, z5, z6, z7, z8, z9, z10, z11, has, hbx, ho⟩ := hx rfl
  obtain ⟨xs, hr, _⟩ := ho.row
  obtain ⟨va, vc, rfl⟩ := ownsRow_slice hr
  have c0 := hbx.cell (j := 0) rfl
  have HB := Lib.hid hb
  clear hb hx hbx ho hr
  go_wp2_with fail
  go_ret
  exact ⟨HB.out, .inr (.inl ⟨rfl, hn, rfl⟩)⟩
/-- The end: a package has begun. -/
theorem rpkg_fin {w2 W3 : World} {L B M : Nat} {K : Nat → Prop} {out : List PkgT} {vo : Value} (ho : OutR X w2 L B M K out vo) (hall : ∀ b, b < w2.heap.size → b ≠ B → W3.heap[b]? = w2.heap[b]?)
    {nm ev ar : ByteArray} (hb : BoxN W3 B (rrdCells vo (pkgCells nm ev ar ⟨#[]⟩ (fun _ => .slice none 0 0) (.slice none 0 0)) true) 52) (p : SP) (h1 : p.name = nm) (h2 : p.evr = ev) (h4 : p.arch = ar) (h5 : p.vendor = ⟨#[]⟩) (hL : ∀ i, p.L i = []) (hf : p.files = []) (s1 : nm.size ≤ 200000) (s2 : ev.size ≤ 200000) (s3 : ar.size ≤ 200000) :
    RdR X W3 L B M K out p true vo (fun _ => .slice none 0 0) (.slice none 0 0) := by
  subst h1 h2 h4
  have hm : 200000 ≤ maxLen := by decide
  refine ⟨?_, ?_, ?_⟩
  · rw [h5]
    exact hb
  · refine ho.keep fun b hl' hb' => hall b hl' fun e => ?_
    subst e
    rcases hb' with e | e | e
    · exact ho.bm e
    · exact ho.kB e
    · exact ho.vB e
  · exact CurO.empty p (by omega) (by omega) (by omega) (by rw [h5]; decide) hL hf
theorem fields_small (s : ByteArray) : ∀ x ∈ fieldsS (bs s), x.length ≤ s.size + 1 := by
  have h1 : ∀ (l cur : Wd), ∀ x ∈ fldR cur l, x.length ≤ cur.length + l.length := by
    intro l
    induction l with
    | nil =>
      intro cur x hx
      unfold fldR at hx
      split at hx
      · cases hx
      · have hx := List.mem_singleton.1 hx
        subst hx
        simp
    | cons c l ih =>
      intro cur x hx
      unfold fldR at hx
      split at hx
      · split at hx
        · have := ih [] x hx
          simp only [List.length_nil, List.length_cons] at *
          omega
        · rcases List.mem_cons.1 hx with rfl | hx
          · omega
          · have := ih [] x hx
            simp only [List.length_nil, List.length_cons] at *
            omega
      · have := ih (cur ++ [c]) x hx
        simp only [List.length_append, List.length_singleton, List.length_cons, List.length_nil] at *
        omega
  intro x hx
  rw [← fldR_fields] at hx
  have h2 := h1 (bs s) [] x hx
  rw [bs_length] at h2
  simp only [List.length_nil] at h2
  omega
set_option maxHeartbeats 8000000 in
set_option maxRecDepth 100000 in
theorem rpkg_in (L B M : Nat) (out : List PkgT) (s : ByteArray) (hs : s.size ≤ 40000) (w : World) (hw : Calls Tryz.prog 26 #[.pointer (some ⟨B, 0, none⟩)] w (WholeR X w L B M 0 out)) (hLB : L ≤ B ∧ B < w.heap.size) (hn : out.length < 200) :
    Calls Tryz.prog 56 #[.pointer (some ⟨B, 0, none⟩), .string s] w (PackR X w L B M 0 out (bs s)) := by
  have HW := Lib.hid hw
  have e1 : ¬ (200 : Int) ≤ (out.length : Int) := by omega
  have HFL := Lib.hid (fun W => fields_c s (by omega) W)
  have HSMALL := Lib.hid (fields_small s)
  clear hw
  go_enter Tryz.func56, Tryz.ntmps56
  go_wp2_with fail
  refine HW.out.mono ?_
  rintro e w2 ⟨rfl, hb, hx⟩
  obtain ⟨vo, K, z0, z1, z2, z3, z4, z5, z6, z7, z8, z9, z10, z11, has, hbx, ho⟩ := hx rfl
  obtain ⟨xs0, hr, _⟩ := ho.row
  obtain ⟨va, vc, rfl⟩ := ownsRow_slice hr
  have c0 := hbx.cell (j := 0) rfl
  have HB := Lib.hid hb
  have HBX := Lib.hid hbx
  have HO := Lib.hid ho
  clear hb hx hbx ho hr HW
  go_wp2_with fail
  refine (HFL.out w2).mono ?_
  rintro e W ⟨wa, wc, rfl, hbW, hrW⟩
  have HBW0 := Lib.hid hbW
  have HBW := Lib.hid (HBX.out.below hbW)
  have HLW : Hid (Below L w W) := Lib.hid (HB.out.trans (below_to hbW (by have := HB.out.size; omega)))
  have HRW := Lib.hid hrW
  have HLT : Hid (B < w2.heap.size ∧ L ≤ B ∧ w2.heap.size ≤ W.heap.size) := Lib.hid ⟨HBX.out.lt, hLB.1, hbW.size⟩
  clear hbW hrW HBX c0 HFL
  by_cases h4 : (fieldsS (bs s)).length = 4
  · obtain ⟨a, b, c, d, hF4⟩ : ∃ a b c d, fieldsS (bs s) = [a, b, c, d] := by
      match h : fieldsS (bs s), h4 with
      | [a, b, c, d], _ => exact ⟨a, b, c, d, rfl⟩
    have hv2 := HRW.out
    rw [hF4] at hv2
    have hsm := HSMALL.out
    rw [hF4] at hsm
    have hv3 : W.ownsRow w2.heap.size 9 1 (.slice wa 4 wc) 4 [.string (mkB a), .string (mkB b), .string (mkB c), .string (mkB d)] := hv2
    rw [hF4]
    clear HRW HSMALL hv2
    rcases ownsRow_form hv3 with ⟨_, h0⟩ | ⟨g, cap, e, hcap, _⟩
    · omega
    · injection e with e1 _ e3
      subst e1 e3
      have hg := hv3.lt g rfl
      have HLC : Hid (∀ W' : World, (∀ b', b' ≠ B → W'.heap[b']? = W.heap[b']?) → W'.cell? ⟨g, 0, none⟩ = some (.string (mkB a)) ∧ W'.cell? ⟨g, 1, none⟩ = some (.string (mkB b)) ∧ W'.cell? ⟨g, 2, none⟩ = some (.string (mkB c)) ∧ W'.cell? ⟨g, 3, none⟩ = some (.string (mkB d))) := Lib.hid fun W' hW' => by
        have hl := HLT.out
        have hv4 := ownsRow_to hv3 (w' := W') fun g' hg' => hW' g' (by have := (hv3.lt g' hg').1; omega)
        exact ⟨ownsRow_cell hv4 (j := 0) rfl, ownsRow_cell hv4 (j := 1) rfl, ownsRow_cell hv4 (j := 2) rfl, ownsRow_cell hv4 (j := 3) rfl⟩
      have HF4 := Lib.hid hF4
      have HSM : Hid ((mkB a).size ≤ 40001 ∧ (mkB b).size ≤ 40001 ∧ (mkB c).size ≤ 40001 ∧ (mkB d).size ≤ 40001) := Lib.hid (by
        have hm : ∀ x ∈ [a, b, c, d], (mkB x).size ≤ 40001 := fun x hx => by
          have := hsm x hx
          show x.length ≤ 40001
          omega
        exact ⟨hm a (by simp), hm b (by simp), hm c (by simp), hm d (by simp)⟩)
      have HBB := Lib.hid HBW.out
      have b13 := HBW.out.cell (j := 13) rfl
      have g13 := HBW.out.frozen 13
      have hlen4 : ([a, b, c, d] : List Wd).length = 4 := rfl
      rw [hlen4]
      clear h4 hv3 hF4 hcap hsm hlen4
      go_upto_region 10 with fail
      obtain ⟨W1, e1w⟩ : ∃ W1, W.setCell ⟨B, 13, none⟩ (.bool true) = W1 := ⟨_, rfl⟩
      have HB1 : Hid (BoxN W1 B [.slice va out.length vc, z0, z1, z2, z3, z4, z5, z6, z7, z8, z9, z10, z11, .bool true] 52) := Lib.hid (by
        rw [← e1w]
        exact HBW.out.set 13 _)
      have HO1 : Hid (∀ b', b' ≠ B → W1.heap[b']? = W.heap[b']?) := Lib.hid fun b' hb' => by
        rw [← e1w]
        exact set_other _ hb'
      have HL1 : Hid (Below L W W1) := Lib.hid (by
        rw [← e1w]
        exact below_sc (Below.refl _ _) (by have := HLT.out; omega) _ _)
      rw [e1w]
      clear b13 g13 e1w
      have HQ : Hid (∀ V : World, V.heap = W1.heap → V.cell? ⟨g, 0, none⟩ = some (.string (mkB a)) ∧ V.cell? ⟨g, 1, none⟩ = some (.string (mkB b)) ∧ V.cell? ⟨g, 2, none⟩ = some (.string (mkB c)) ∧ V.cell? ⟨g, 3, none⟩ = some (.string (mkB d))) := Lib.hid fun V hV => HLC.out V fun b' hb' => by rw [hV]; exact HO1.out b' hb'
      refine wp_region_ord (fun V => V.heap = W1.heap) 13 [(true, 0), (true, 1), (true, 2), (true, 3), (true, 4), (true, 5), (true, 6), (true, 7), (true, 8), (true, 9), (true, 10), (false, 11), (true, 12), (false, 13)] (by kernel_rfl) (by kernel_rfl) (fun _ _ d _ _ h => by cases d <;> exact h) rfl ?_
      intro wd hwd hS
      simp only [ordOps, List.map_cons, List.map_nil, Array.getD_eq_getD_getElem?, List.getElem?_toArray, List.getElem?_cons_succ, List.getElem?_cons_zero, Option.getD_some]
      iterate 11 (refine wpOrd_q rfl _ (fun w' hS' K hK => (by obtain ⟨r0, r1, r2, r3⟩ := HQ.out w' hS'; clear hS'; go_simp; exact hK)) (fun K hK => ?_); go_simp; refine hK _ ?_; clear hK K)
      refine wpOrd_l rfl (fun K hK => ?_)
      go_simp
      refine hK _ _ ⟨fun _ => hS, ?_⟩
      clear hK K
      refine wpOrd_q rfl _ (fun w' hS' K hK => (by obtain ⟨r0, r1, r2, r3⟩ := HQ.out w' hS'; clear hS'; go_simp; exact hK)) (fun K hK => ?_); go_simp; refine hK _ ?_; clear hK K
      have HBd := Lib.hid (HB1.out.to (W' := wd) (by rw [hS]))
      have HSd := Lib.hid hS
      have HWd : Hid (wd = W1.drew) := hwd
      clear hS hwd
      have p1 := HBd.out.cell (j := 1) rfl
      have f1 := HBd.out.frozen 1
      have p2 := HBd.out.cell (j := 2) rfl
      have f2 := HBd.out.frozen 2
      have p3 := HBd.out.cell (j := 3) rfl
      have f3 := HBd.out.frozen 3
      have p4 := HBd.out.cell (j := 4) rfl
      have f4 := HBd.out.frozen 4
      have p5 := HBd.out.cell (j := 5) rfl
      have f5 := HBd.out.frozen 5
      have p6 := HBd.out.cell (j := 6) rfl
      have f6 := HBd.out.frozen 6
      have p7 := HBd.out.cell (j := 7) rfl
      have f7 := HBd.out.frozen 7
      have p8 := HBd.out.cell (j := 8) rfl
      have f8 := HBd.out.frozen 8
      have p9 := HBd.out.cell (j := 9) rfl
      have f9 := HBd.out.frozen 9
      have p10 := HBd.out.cell (j := 10) rfl
      have f10 := HBd.out.frozen 10
      have p11 := HBd.out.cell (j := 11) rfl
      have f11 := HBd.out.frozen 11
      have p12 := HBd.out.cell (j := 12) rfl
      have f12 := HBd.out.frozen 12
      refine wpOrd_l rfl (fun K hK => ?_)
      go_simp
      refine hK _ _ ⟨fun h => absurd rfl h, ?_⟩
      clear hK K
      refine wpOrd_nil ?_
      clear p1 p2 p3 p4 p5 p6 p7 p8 p9 p10 p11 p12 f1 f2 f3 f4 f5 f6 f7 f8 f9 f10 f11 f12
      have HLd : Hid (Below L w wd) := Lib.hid (by rw [HWd.out]; exact below_drB (HLW.out.trans HL1.out))
      obtain ⟨W2, e2w⟩ : ∃ W2, ((((((((((((wd.setCell ⟨B, 1, none⟩ (.string (mkB a))).setCell ⟨B, 2, none⟩ (.string (mkB b))).setCell ⟨B, 3, none⟩ (.string (mkB d))).setCell ⟨B, 4, none⟩ (.string ⟨#[]⟩)).setCell ⟨B, 5, none⟩ (.slice none 0 0)).setCell ⟨B, 6, none⟩ (.slice none 0 0)).setCell ⟨B, 7, none⟩ (.slice none 0 0)).setCell ⟨B, 8, none⟩ (.slice none 0 0)).setCell ⟨B, 9, none⟩ (.slice none 0 0)).setCell ⟨B, 10, none⟩ (.slice none 0 0)).setCell ⟨B, 11, none⟩ (.slice none 0 0)).setCell ⟨B, 12, none⟩ (.slice none 0 0)) = W2 := ⟨_, rfl⟩
      have HB2 : Hid (BoxN W2 B [.slice va out.length vc, .string (mkB a), .string (mkB b), .string (mkB d), .string ⟨#[]⟩, .slice none 0 0, .slice none 0 0, .slice none 0 0, .slice none 0 0, .slice none 0 0, .slice none 0 0, .slice none 0 0, .slice none 0 0, .bool true] 52) := Lib.hid (by
        rw [← e2w]
        exact ((((((((((((HBd.out.set 1 (.string (mkB a))).set 2 (.string (mkB b))).set 3 (.string (mkB d))).set 4 (.string ⟨#[]⟩)).set 5 (.slice none 0 0)).set 6 (.slice none 0 0)).set 7 (.slice none 0 0)).set 8 (.slice none 0 0)).set 9 (.slice none 0 0)).set 10 (.slice none 0 0)).set 11 (.slice none 0 0)).set 12 (.slice none 0 0)))
      have HO2 : Hid (∀ b', b' ≠ B → W2.heap[b']? = W.heap[b']?) := Lib.hid fun b' hb' => by
        rw [← e2w]
        iterate 12 (refine (set_other _ hb').trans ?_)
        rw [HSd.out]
        exact HO1.out b' hb'
      have HL2 : Hid (Below L w W2) := Lib.hid (by
        rw [← e2w]
        iterate 12 (refine below_sc ?_ HLT.out.2.1 _ _)
        exact HLd.out)
      rw [e2w]
      clear e2w
      obtain ⟨r0, r1, r2, r3⟩ := HLC.out W2 HO2.out
      by_cases h45 : c = [45]
      · subst h45
        have q3 : ((mkB [45]).toList == ([45] : List UInt8)) = true := by
          rw [Lib.toList_data]
          rfl
        have q4 : ((mkB [45]).toList != ([45] : List UInt8)) = false := by
          rw [Lib.toList_data]
          rfl
        go_wp2_with fail
        go_ret
        obtain ⟨m1, m2, m3, m4⟩ := HSM.out
        have f2 := rpkg_fin HO.out (W3 := W2) (fun b' hl hb' => (HO2.out b' hb').trans (HBW0.out.block b' hl)) HB2.out (newSP a b [45] d) rfl (by unfold newSP; rw [if_pos rfl]) rfl rfl (fun _ => rfl) rfl (by omega) (by omega) (by omega)
        exact ⟨HL2.out, .inr (.inr (.inr ⟨rfl, hn, a, b, [45], d, HF4.out, rfl, K, _, f2⟩))⟩
      · have q3 : ((mkB c).toList == ([45] : List UInt8)) = false := by
          rw [Lib.toList_data]
          show (c == [45]) = false
          simpa using h45
        have q4 : ((mkB c).toList != ([45] : List UInt8)) = true := by
          rw [Lib.toList_data]
          show (c != [45]) = true
          simpa using h45
        go_upto_region 12 with fail
        have HQ2 : Hid (∀ V : World, V.heap = W2.heap → V.cell? ⟨g, 1, none⟩ = some (.string (mkB b)) ∧ V.cell? ⟨g, 2, none⟩ = some (.string (mkB c)) ∧ V.cell? ⟨B, 2, none⟩ = some (.string (mkB b)) ∧ V.frozen? ⟨B, 2, none⟩ = false) := Lib.hid fun V hV => by
          have h1 := HLC.out V fun b' hb' => by rw [hV]; exact HO2.out b' hb'
          have h2 := HB2.out.to (W' := V) (by rw [hV])
          exact ⟨h1.2.1, h1.2.2.1, h2.cell (j := 2) rfl, h2.frozen 2⟩
        clear r0 r1 r2 r3 q3 q4
        have z1 : ¬ 9223372036854775807 < (mkB b).size + 1 := by have := HSM.out; omega
        have z2 : ¬ 9223372036854775807 < (mkB b).size + 1 + (mkB c).size := by have := HSM.out; omega
        have z3 : ¬ 9223372036854775807 < (mkB b ++ (⟨#[45]⟩ : ByteArray)).size + (mkB c).size := by
          rw [ByteArray.size_append]
          exact z2
        refine wp_region_ord (fun V => V.heap = W2.heap) 12 [(true, 0), (true, 1), (true, 2), (true, 3), (true, 4), (true, 5), (true, 6), (true, 7), (true, 8), (false, 9), (false, 10), (false, 11), (false, 12)] (by kernel_rfl) (by kernel_rfl) (fun _ _ d _ _ h => by cases d <;> exact h) rfl ?_
        intro we hwe hS
        simp only [ordOps, List.map_cons, List.map_nil, Array.getD_eq_getD_getElem?, List.getElem?_toArray, List.getElem?_cons_succ, List.getElem?_cons_zero, Option.getD_some]
        iterate 9 (refine wpOrd_q rfl _ (fun w' hS' K hK => (by obtain ⟨r0, r1, r2, r3⟩ := HQ2.out w' hS'; clear hS'; go_simp; exact hK)) (fun K hK => ?_); go_simp; refine hK _ ?_; clear hK K)
        iterate 3 (refine wpOrd_l rfl (fun K hK => ?_); go_simp; refine hK _ _ ⟨fun _ => hS, ?_⟩; clear hK K)
        obtain ⟨r0, r1, r2, r3⟩ := HQ2.out we hS
        refine wpOrd_l rfl (fun K hK => ?_)
        go_simp
        refine hK _ _ ⟨fun h => absurd rfl h, ?_⟩
        clear hK K r0 r1 r2 r3
        refine wpOrd_nil ?_
        obtain ⟨W5, e5w⟩ : ∃ W5, we.setCell ⟨B, 2, none⟩ (.string (mkB b ++ (⟨#[45]⟩ : ByteArray) ++ mkB c)) = W5 := ⟨_, rfl⟩
        have hev : mkB b ++ (⟨#[45]⟩ : ByteArray) ++ mkB c = mkB (b ++ 45 :: c) := by
          rw [← mkB_bs (mkB b ++ (⟨#[45]⟩ : ByteArray) ++ mkB c)]
          congr 1
          unfold bs mkB
          simp [ByteArray.data_append]
        have HB5 : Hid (BoxN W5 B [.slice va out.length vc, .string (mkB a), .string (mkB (b ++ 45 :: c)), .string (mkB d), .string ⟨#[]⟩, .slice none 0 0, .slice none 0 0, .slice none 0 0, .slice none 0 0, .slice none 0 0, .slice none 0 0, .slice none 0 0, .slice none 0 0, .bool true] 52) := Lib.hid (by
          rw [← e5w, hev]
          exact (HB2.out.to (W' := we) (by rw [hS])).set 2 _)
        have HO5 : Hid (∀ b', b' ≠ B → W5.heap[b']? = W.heap[b']?) := Lib.hid fun b' hb' => by
          rw [← e5w]
          refine (set_other _ hb').trans ?_
          rw [hS]
          exact HO2.out b' hb'
        have HL5 : Hid (Below L w W5) := Lib.hid (by
          rw [← e5w]
          refine below_sc ?_ HLT.out.2.1 _ _
          rw [hwe.out]
          exact below_drB HL2.out)
        rw [e5w]
        clear e5w hS hwe z1 z2 z3 hev
        go_wp2_with fail
        go_ret
        obtain ⟨m1, m2, m3, m4⟩ := HSM.out
        have hme : (mkB (b ++ 45 :: c)).size ≤ 200000 := by
          show (b ++ 45 :: c).length ≤ 200000
          have e2 : (mkB b).size = b.length := rfl
          have e3 : (mkB c).size = c.length := rfl
          rw [List.length_append, List.length_cons]
          omega
        have f2 := rpkg_fin HO.out (W3 := W5) (fun b' hl hb' => (HO5.out b' hb').trans (HBW0.out.block b' hl)) HB5.out (newSP a b c d) rfl (by unfold newSP; rw [if_neg h45]) rfl rfl (fun _ => rfl) rfl (by omega) hme (by omega)
        exact ⟨HL5.out, .inr (.inr (.inr ⟨rfl, hn, a, b, c, d, HF4.out, rfl, K, _, f2⟩))⟩
  · have HN4 := Lib.hid h4
    have q1 : (((fieldsS (bs s)).length : Int) == 4) = false := by
      rw [beq_eq_false_iff_ne]
      omega
    have q2 : (((fieldsS (bs s)).length : Int) != 4) = true := by
      rw [bne_iff_ne]
      omega
    clear h4 HRW HSMALL
    go_wp2_with fail
    go_ret
    exact ⟨HLW.out, .inr (.inr (.inl ⟨rfl, hn, HN4.out, rfl⟩))⟩
/-- suse's pack. -/
theorem rpkg_c {w : World} {L B M : Nat} {st : SSt} {n : Nat} (h : RdRt X w L B M st n) (hn : n ≤ 1000000) (s : ByteArray) (hs : s.size ≤ 40000) : Calls Tryz.prog 56 #[.pointer (some ⟨B, 0, none⟩), .string s] w (StepR X w L B M (packS st (bs s)) 0) := by
  have hw := rwhole_c h hn
  have hl := h.lt
  unfold packS
  generalize (wholeS st).1 = out at hw ⊢
  generalize (wholeS st).2 = E at hw ⊢
  by_cases hE : E = 0
  · subst hE
    rw [if_neg (by simp)]
    by_cases h2 : 200 ≤ out.length
    · rw [if_pos h2]
      refine (rpkg_many L B M out s w hw h2).mono ?_
      rintro e w' ⟨hb, h | h | h | h⟩
      · exact absurd rfl h.1
      · exact ⟨hb, h.2.2⟩
      · omega
      · omega
    · rw [if_neg h2]
      refine (rpkg_in L B M out s hs w hw hl (by omega)).mono ?_
      rintro e w' ⟨hb, h | h | h | h⟩
      · exact absurd rfl h.1
      · omega
      · have h5 := four_not (fun a b c d => .ok ⟨out, some (newSP a b c d)⟩) _ h.2.2.1
        exact (congrArg (fun r => StepR X w L B M r 0 e w') h5).mpr ⟨hb, h.2.2.2⟩
      · obtain ⟨_, _, a, b, c, d, h4, he, K, vo, hr⟩ := h
        refine ⟨hb, ?_⟩
        rw [h4]
        refine ⟨he, K, newSP a b c d, vo, _, _, hr, fun q hq => (Option.some.inj hq).symm, fun i => Nat.le_refl _, Nat.le_refl _, ?_⟩
        show out.length ≤ 200
        omega
  · rw [if_pos hE]
    refine (rpkg_err L B M E out s w hw hE).mono ?_
    rintro e w' ⟨hb, h | h | h | h⟩
    · exact ⟨hb, h.2⟩
    · exact absurd h.1 hE
    · exact absurd h.1 hE
    · exact absurd h.1 hE
end Go.Proofs.YtjcefgjgjhdbpaaGreatDoor
namespace Go.Proofs.YtjcefgjgjhdbpaaGreatDoor
set_option linter.unusedVariables false
set_option linter.unusedSimpArgs false
open Go.RowKit Go.Maps
variable {X : Obj}

theorem RdRt.has {w : World} {L B M : Nat} {st : SSt} {n : Nat} (h : RdRt X w L B M st n) : w.cell? ⟨B, 13, none⟩ = some (.bool st.cur.isSome) := by
  obtain ⟨K, p, vo, v, vf, h1, _⟩ := h
  exact h1.box.cell (j := 13) rfl
theorem RdRt.len {w : World} {L B M : Nat} {st : SSt} {n : Nat} (h : RdRt X w L B M st n) : st.out.length ≤ 200 := by
  obtain ⟨K, p, vo, v, vf, _, _, _, _, h1⟩ := h
  exact h1
theorem RdRt.cont {w : World} {L B M : Nat} {st : SSt} {n : Nat} (h : RdRt X w L B M st n) : w.heap[M]? = some X := by
  obtain ⟨K, p, vo, v, vf, h1, _⟩ := h
  exact h1.outs.map
theorem OutR.pkgs {w : World} {L B M : Nat} {K : Nat → Prop} {out : List PkgT} {vo : Value} (h : OutR X w L B M K out vo) (hn : out.length ≤ 1000) : PkgsV w (New L w) out vo := by
  obtain ⟨xs, hr, hx⟩ := h.row
  rcases hr.2 with ⟨e, h0⟩ | ⟨g, cap, cur, e, hg, hat, hcap, _, hsz, htake⟩
  · exact ⟨none, 0, by rw [e, h0], by omega, fun hne => absurd (List.length_eq_zero_iff.1 h0) hne⟩
  · refine ⟨_, cap, e, by omega, fun _ => ⟨g, 0, rfl, ⟨hg, _, _, hat⟩, fun i hi => ?_⟩⟩
    obtain ⟨v, vf, h1, h2⟩ := hx i hi
    refine ⟨v, vf, h1.keep (fun b hb => h.fresh b hb) (fun _ _ _ => rfl), fun r u hu => ?_⟩
    refine cell_of hat ?_
    have h5 := h2 r u hu
    have hlt := (List.getElem?_eq_some_iff.1 h5).1
    rw [hr.1] at hlt
    rw [← htake, List.getElem?_take_of_lt hlt] at h5
    rw [Nat.zero_add, ← Array.getElem?_toList]
    exact h5
theorem strip_ways (r : ByteArray) : (r.size = 0 ∧ bs r = strip1 (bs r)) ∨ ∃ h0 : 0 < r.size, ((r[0]'h0) = 32 ∧ bs (r.extract 1 r.size) = strip1 (bs r)) ∨ ((r[0]'h0) ≠ 32 ∧ bs r = strip1 (bs r)) := by
  by_cases h0 : 0 < r.size
  · refine .inr ⟨h0, ?_⟩
    have h3 : 0 < (bs r).length := by rw [bs_length]; exact h0
    have e : bs r = r[0] :: (bs r).drop 1 := by
      have := List.drop_eq_getElem_cons h3
      rw [List.drop_zero] at this
      exact this
    by_cases hc : (r[0]'h0) = 32
    · refine .inl ⟨hc, ?_⟩
      rw [bs_tail]
      have e2 : strip1 (r[0] :: (bs r).drop 1) = (bs r).drop 1 := if_pos hc
      rw [← e] at e2
      exact e2.symm
    · refine .inr ⟨hc, ?_⟩
      have e2 : strip1 (r[0] :: (bs r).drop 1) = r[0] :: (bs r).drop 1 := if_neg hc
      rw [← e] at e2
      exact e2.symm
  · exact .inl ⟨by omega, by rw [bs_zero0 h0]; rfl⟩
theorem StepR.ret {w : World} {L B M : Nat} {r : SRes} {n : Nat} {e : Ending} {w' : World} (h : StepR X w L B M r n e w') : ∃ z, e = .returned (.int .i64 z) := by
  cases r with
  | err x => exact ⟨x, h.2⟩
  | ok st => exact ⟨0, h.2.1⟩
set_option maxHeartbeats 8000000 in
set_option maxRecDepth 100000 in
/-- The document's one. -/
theorem rone_c {w : World} {L B M : Nat} {st : SSt} {n : Nat} (h : RdRt X w L B M st n) (hn : n ≤ 1000000) (t r : ByteArray) (ht : t.size ≤ 40000) (hr : r.size ≤ 40000) :
    Calls Tryz.prog 24 #[.pointer (some ⟨B, 0, none⟩), .string t, .string r] w (StepR X w L B M (oneS st (bs t) (bs r)) (n + 1)) := by
  have HST := Lib.hid h
  have c13 := h.has
  obtain ⟨POST, hPOST⟩ : ∃ P, StepR X w L B M (oneS st (bs t) (bs r)) (n + 1) = P := ⟨_, rfl⟩
  rw [hPOST]
  unfold oneS at hPOST
  have HY : Hid (∀ y : ByteArray, y.size ≤ 40000 → bs y = strip1 (bs r) → (bs t = pkgW → Calls Tryz.prog 56 #[.pointer (some ⟨B, 0, none⟩), .string y] w fun e w' => ∃ z, e = .returned (.int .i64 z) ∧ POST (.returned (.int .i64 z)) w') ∧ (bs t ≠ pkgW → st.cur.isSome = true → Calls Tryz.prog 57 #[.pointer (some ⟨B, 0, none⟩), .string t, .string y] w fun e w' => ∃ z, e = .returned (.int .i64 z) ∧ POST (.returned (.int .i64 z)) w')) := Lib.hid fun y hys hy => by
    refine ⟨fun hp => ?_, fun hp hs => ?_⟩
    · rw [if_pos hp, ← hy] at hPOST
      rw [← hPOST]
      refine (rpkg_c HST.out hn y hys).mono ?_
      intro e w' h2
      obtain ⟨z, rfl⟩ := h2.ret
      refine ⟨z, rfl, ?_⟩
      unfold StepR at h2 ⊢
      refine ⟨h2.1, ?_⟩
      have h3 := h2.2
      cases hp2 : packS st (bs y) with
      | err x => rw [hp2] at h3; exact h3
      | ok st' => rw [hp2] at h3; exact ⟨h3.1, h3.2.more (by omega)⟩
    · rw [if_neg hp, ← hy] at hPOST
      cases hc : st.cur with
      | none => rw [hc] at hs; cases hs
      | some p =>
        rw [hc] at hPOST
        rw [← hPOST]
        refine (rput_c HST.out hs hn t y ht hys).mono ?_
        intro e w' h2
        obtain ⟨z, rfl⟩ := h2.ret
        exact ⟨z, rfl, h2⟩
  have HN : Hid (bs t ≠ pkgW → st.cur.isSome = false → (bs t = verW → POST (.returned (.int .i64 0)) w) ∧ (bs t ≠ verW → POST (.returned (.int .i64 130)) w)) := Lib.hid fun hp hs => by
    have hc : st.cur = none := by
      cases e : st.cur with
      | none => rfl
      | some p => rw [e] at hs; cases hs
    rw [if_neg hp, hc] at hPOST
    refine ⟨fun hv => ?_, fun hv => ?_⟩
    · simp only [hv, ↓reduceIte] at hPOST
      rw [← hPOST]
      exact ⟨Below.refl _ _, rfl, HST.out.more (by omega)⟩
    · simp only [hv, ↓reduceIte] at hPOST
      rw [← hPOST]
      exact ⟨Below.refl _ _, rfl⟩
  clear hPOST h
  have hways := strip_ways r
  have hex : (r.extract 1 r.size).size ≤ 40000 := by rw [ByteArray.size_extract]; omega
  by_cases hp : bs t = pkgW
  · have et : t = ⟨#[80, 107, 103]⟩ := by rw [← mkB_bs t, hp]; rfl
    subst et
    rcases hways with ⟨h0, hy⟩ | ⟨h0, ⟨hc, hy⟩ | ⟨hc, hy⟩⟩
    · have q0 : ¬ (0 : Int) < (r.size : Int) := by omega
      have HC := Lib.hid ((HY.out r hr hy).1 hp)
      clear hp hy HY HN c13
      go_enter Tryz.func24, Tryz.ntmps24
      go_wp2_with (go_at_call 56; refine HC.out.mono ?_; rintro e w' ⟨z, rfl, hpost⟩; have HP := Lib.hid hpost; clear hpost)
      exact HP.out
    · have q0 : (0 : Int) < (r.size : Int) := by omega
      have q1 : ((r[0].toNat : Int) == 32) = true := by rw [hc]; rfl
      have q2 : (1 : Int) ≤ (r.size : Int) := by omega
      have HC := Lib.hid ((HY.out _ hex hy).1 hp)
      clear hp hy HY HN c13
      go_enter Tryz.func24, Tryz.ntmps24
      go_wp2_with (go_at_call 56; refine HC.out.mono ?_; rintro e w' ⟨z, rfl, hpost⟩; have HP := Lib.hid hpost; clear hpost)
      exact HP.out
    · have q0 : (0 : Int) < (r.size : Int) := by omega
      have q1 : ((r[0].toNat : Int) == 32) = false := u8b hc
      have HC := Lib.hid ((HY.out r hr hy).1 hp)
      clear hp hy HY HN c13
      go_enter Tryz.func24, Tryz.ntmps24
      go_wp2_with (go_at_call 56; refine HC.out.mono ?_; rintro e w' ⟨z, rfl, hpost⟩; have HP := Lib.hid hpost; clear hpost)
      exact HP.out
  · cases hcur : st.cur.isSome with
    | true =>
      rw [hcur] at c13
      rcases hways with ⟨h0, hy⟩ | ⟨h0, ⟨hc, hy⟩ | ⟨hc, hy⟩⟩
      · have q0 : ¬ (0 : Int) < (r.size : Int) := by omega
        have HC := Lib.hid ((HY.out r hr hy).2 hp hcur)
        have e1 : (t.toList == [80, 107, 103]) = false := lit_ne hp
        clear hp hy HY HN
        go_enter Tryz.func24, Tryz.ntmps24
        go_wp2_with (go_at_call 57; refine HC.out.mono ?_; rintro e w' ⟨z, rfl, hpost⟩; have HP := Lib.hid hpost; clear hpost)
        exact HP.out
      · have q0 : (0 : Int) < (r.size : Int) := by omega
        have q1 : ((r[0].toNat : Int) == 32) = true := by rw [hc]; rfl
        have q2 : (1 : Int) ≤ (r.size : Int) := by omega
        have HC := Lib.hid ((HY.out _ hex hy).2 hp hcur)
        have e1 : (t.toList == [80, 107, 103]) = false := lit_ne hp
        clear hp hy HY HN
        go_enter Tryz.func24, Tryz.ntmps24
        go_wp2_with (go_at_call 57; refine HC.out.mono ?_; rintro e w' ⟨z, rfl, hpost⟩; have HP := Lib.hid hpost; clear hpost)
        exact HP.out
      · have q0 : (0 : Int) < (r.size : Int) := by omega
        have q1 : ((r[0].toNat : Int) == 32) = false := u8b hc
        have HC := Lib.hid ((HY.out r hr hy).2 hp hcur)
        have e1 : (t.toList == [80, 107, 103]) = false := lit_ne hp
        clear hp hy HY HN
        go_enter Tryz.func24, Tryz.ntmps24
        go_wp2_with (go_at_call 57; refine HC.out.mono ?_; rintro e w' ⟨z, rfl, hpost⟩; have HP := Lib.hid hpost; clear hpost)
        exact HP.out
    | false =>
      rw [hcur] at c13
      by_cases hv : bs t = verW
      · rcases hways with ⟨h0, hy⟩ | ⟨h0, ⟨hc, hy⟩ | ⟨hc, hy⟩⟩
        · have q0 : ¬ (0 : Int) < (r.size : Int) := by omega
          have HP := Lib.hid ((HN.out hp hcur).1 hv)
          have e1 : (t.toList == [80, 107, 103]) = false := lit_ne hp
          have e2 : (t.toList == [86, 101, 114]) = true := by rw [Lib.toList_data]; show (bs t == [86, 101, 114]) = true; rw [hv]; rfl
          clear hp hy HY HN hv
          go_enter Tryz.func24, Tryz.ntmps24
          go_wp2_with fail
          exact HP.out
        · have q0 : (0 : Int) < (r.size : Int) := by omega
          have q1 : ((r[0].toNat : Int) == 32) = true := by rw [hc]; rfl
          have q2 : (1 : Int) ≤ (r.size : Int) := by omega
          have HP := Lib.hid ((HN.out hp hcur).1 hv)
          have e1 : (t.toList == [80, 107, 103]) = false := lit_ne hp
          have e2 : (t.toList == [86, 101, 114]) = true := by rw [Lib.toList_data]; show (bs t == [86, 101, 114]) = true; rw [hv]; rfl
          clear hp hy HY HN hv
          go_enter Tryz.func24, Tryz.ntmps24
          go_wp2_with fail
          exact HP.out
        · have q0 : (0 : Int) < (r.size : Int) := by omega
          have q1 : ((r[0].toNat : Int) == 32) = false := u8b hc
          have HP := Lib.hid ((HN.out hp hcur).1 hv)
          have e1 : (t.toList == [80, 107, 103]) = false := lit_ne hp
          have e2 : (t.toList == [86, 101, 114]) = true := by rw [Lib.toList_data]; show (bs t == [86, 101, 114]) = true; rw [hv]; rfl
          clear hp hy HY HN hv
          go_enter Tryz.func24, Tryz.ntmps24
          go_wp2_with fail
          exact HP.out
      · rcases hways with ⟨h0, hy⟩ | ⟨h0, ⟨hc, hy⟩ | ⟨hc, hy⟩⟩
        · have q0 : ¬ (0 : Int) < (r.size : Int) := by omega
          have HP := Lib.hid ((HN.out hp hcur).2 hv)
          have e1 : (t.toList == [80, 107, 103]) = false := lit_ne hp
          have e2 : (t.toList == [86, 101, 114]) = false := lit_ne hv
          clear hp hy HY HN hv
          go_enter Tryz.func24, Tryz.ntmps24
          go_wp2_with fail
          exact HP.out
        · have q0 : (0 : Int) < (r.size : Int) := by omega
          have q1 : ((r[0].toNat : Int) == 32) = true := by rw [hc]; rfl
          have q2 : (1 : Int) ≤ (r.size : Int) := by omega
          have HP := Lib.hid ((HN.out hp hcur).2 hv)
          have e1 : (t.toList == [80, 107, 103]) = false := lit_ne hp
          have e2 : (t.toList == [86, 101, 114]) = false := lit_ne hv
          clear hp hy HY HN hv
          go_enter Tryz.func24, Tryz.ntmps24
          go_wp2_with fail
          exact HP.out
        · have q0 : (0 : Int) < (r.size : Int) := by omega
          have q1 : ((r[0].toNat : Int) == 32) = false := u8b hc
          have HP := Lib.hid ((HN.out hp hcur).2 hv)
          have e1 : (t.toList == [80, 107, 103]) = false := lit_ne hp
          have e2 : (t.toList == [86, 101, 114]) = false := lit_ne hv
          clear hp hy HY HN hv
          go_enter Tryz.func24, Tryz.ntmps24
          go_wp2_with fail
          exact HP.out
end Go.Proofs.YtjcefgjgjhdbpaaGreatDoor
