/-
  The solver: add. Helper text; the conditions are those typed.
-/
import Derived.Test.YtkeagjphddcjeaaSolC
import Derived.Test.YtkeagjphddcjeaaOrd
namespace Go.Proofs.Ytkeagjphddcjeaa
set_option linter.unusedVariables false
set_option linter.unusedSimpArgs false
open Go.RowKit Go.Maps Sat

theorem info24 : (Try.prog.info? 24).map (fun i => (i.zero, i.size, i.bytes)) = some (some (.slice none 0 0), 1, 24) := by kernel_rfl
/-- What 'add' changes. -/
def AddT (r : Role) : Prop := r = .crow ∨ r = .box ∨ r = .map ∨ r = .kept ∨ ∃ l, r = .wlist l
theorem intsI_len (l : List Int) : (intsI l).length = l.length := by
  unfold intsI
  simp
theorem intsI_get {l : List Int} {j : Nat} (hj : j < l.length) : (intsI l)[j]? = some (.int .i64 l[j]) := by
  unfold intsI
  simp [hj]

section
variable {w w' : World} {B : Nat} {role role' : Nat → Role} {S M gv gl gr : Nat} {vc vt vm : Value} {head n : Nat} {cv : Nat → Value} {wo : Int → Option Value} {wl : Int → List Nat} {cs : List Cl} {tr : List En} {mk : List Nat} {T : Role → Prop}

theorem SolIn.congr (h : SolIn w B role S M gv gl gr vc vt vm head n cv wo wl cs tr mk) {wl' : Int → List Nat} (hw : ∀ l, wl' l = wl l) : SolIn w B role S M gv gl gr vc vt vm head n cv wo wl' cs tr mk := by
  obtain rfl : wl' = wl := funext hw
  exact h
/-- A clause more. -/
theorem SolIn.more (h : SolIn w B role S M gv gl gr vc vt vm head n cv wo wl cs tr mk) (hB : B ≤ w.heap.size) {w1 w2 : World} (hb : Below w.heap.size w w1) {g cap : Nat} {vn : Value} {c : Cl}
    (hown : w2.ownsRow B 24 1 (.slice (some ⟨g, 0, none⟩) (cs.length + 1) cap) (cs.length + 1) ((List.range cs.length).map cv ++ [vn])) (hg : w1.grownBy w2 vc.ownBlock) (hat : vc.ownBlock = some g ∨ g = w1.heap.size) (hlt : g < w2.heap.size)
    (hc : w.ownsRow B 3 1 vn c.length (intsI c)) (hr : ∀ b, vn.ownBlock = some b → role b = .clause cs.length) :
    ∃ role', Step AddT role w role' (w2.setCell ⟨S, 0, none⟩ (.slice (some ⟨g, 0, none⟩) (cs.length + 1) cap)) ∧
      SolIn (w2.setCell ⟨S, 0, none⟩ (.slice (some ⟨g, 0, none⟩) (cs.length + 1) cap)) B role' S M gv gl gr (.slice (some ⟨g, 0, none⟩) (cs.length + 1) cap) vt vm head n (fun i => if i = cs.length then vn else cv i) wo wl (cs ++ [c]) tr mk := by
  have s1 := Step.of_below h.hi hb
  have s2 := Step.of_rows s1.inn (R := .crow) (by simp) h.rc hg (hat.imp id (fun e => e.symm)) hlt
  have s3 := Step.of_set s2.inn S 0 (.slice (some ⟨g, 0, none⟩) (cs.length + 1) cap)
  have hSg : S ≠ g := fun e => by
    subst e
    rcases hat with h1 | h1
    · have := h.rc S h1
      rw [h.rS] at this
      cases this
    · have h2 := h.hi S (by rw [h.rS]; simp)
      have := hb.size
      omega
  have rS2 : (fun b => if b = g then Role.crow else role b) S = .box := by
    show (if S = g then Role.crow else role S) = .box
    rw [if_neg hSg]
    exact h.rS
  replace s3 := s3.mono (T2 := fun r => r = .box) (fun r e => e.trans rS2)
  have hs := (s1.trans (s2.trans s3)).mono (T2 := fun r => r = .crow ∨ r = .box) (by rintro r (e | e | e); exact e.elim; exact .inl e; exact .inr e)
  have blk := fun {b : Nat} {R : Role} (hb : role b = R) (h1 : R ≠ .free) (h2 : ¬ (R = .crow ∨ R = .box)) => h.blk hs hb h1 h2
  obtain ⟨fl, hl1, hl2⟩ := h.levs
  obtain ⟨fr, hr1, hr2⟩ := h.whys
  refine ⟨_, hs.mono (by rintro r (e | e); exact .inl e; exact .inr (.inl e)), ?_, ?_, fun i d hd => ?_, h.watch.block (blk h.rM (by simp) (by simp)).1, h.wdom, fun l => ?_, h.vals.to (blk h.rv (by simp) (by simp)).1, ⟨fl, hl1.to (blk h.rl (by simp) (by simp)).1, hl2⟩, ⟨fr, hr1.to (blk h.rr (by simp) (by simp)).1, hr2⟩,
    ownsRow_to h.trow fun b hb => (blk (h.rt b hb) (by simp) (by simp)).1, ownsRow_to h.mrow fun b hb => (blk (h.rm b hb) (by simp) (by simp)).1,
    rS2, (blk h.rM (by simp) (by simp)).2, (blk h.rv (by simp) (by simp)).2, (blk h.rl (by simp) (by simp)).2, (blk h.rr (by simp) (by simp)).2, fun b hb => ?_, fun i b hi hb => ?_, fun l b v hv hne hb => (blk (h.rW l b v hv hne hb) (by simp) (by simp)).2,
    fun b hb => (blk (h.rt b hb) (by simp) (by simp)).2, fun b hb => (blk (h.rm b hb) (by simp) (by simp)).2, hs.lo (h := h.lo) hB, hs.inn⟩
  · have hb1 := h.box.below hb
    have hb2 := hb1.to (hg.block S hb1.lt (fun e => by have := h.rc S e.symm; rw [h.rS] at this; cases this))
    exact hb2.set 0 _
  · rw [List.length_append, List.length_singleton, List.range_succ, List.map_append]
    have e1 : (List.range cs.length).map (fun i => if i = cs.length then vn else cv i) = (List.range cs.length).map cv := List.map_congr_left fun i hi => if_neg (by have := List.mem_range.1 hi; omega)
    rw [e1]
    have e2 : [cs.length].map (fun i => if i = cs.length then vn else cv i) = [vn] := by simp
    rw [e2]
    exact ownsRow_to hown fun b hb => by
      cases hb
      exact set_other _ (Ne.symm hSg)
  · by_cases hi : i < cs.length
    · rw [List.getElem?_append_left hi] at hd
      simp only [show i ≠ cs.length by omega, if_false]
      exact ownsRow_to (h.clause i d hd) fun b hb => (blk (h.rC i b hi hb) (by simp) (by simp)).1
    · have hi2 := (List.getElem?_eq_some_iff.1 hd).1
      simp only [List.length_append, List.length_singleton] at hi2
      have hi3 : i = cs.length := by omega
      subst hi3
      simp only [List.getElem?_concat_length, Option.some.injEq] at hd
      subst hd
      simp only [if_true]
      exact ownsRow_to hc fun b hb => (blk (hr b hb) (by simp) (by simp)).1
  · refine (h.wlist l).to fun hne b hb => ?_
    cases hw : wo l with
    | none => rw [hw] at hb; cases hb
    | some v =>
      rw [hw] at hb hne
      exact (blk (h.rW l b v hw hne hb) (by simp) (by simp)).1
  · cases hb
    exact if_pos rfl
  · rw [List.length_append, List.length_singleton] at hi
    by_cases e : i = cs.length
    · subst e
      simp only [if_true] at hb
      exact (blk (hr b hb) (by simp) (by simp)).2
    · simp only [e, if_false] at hb
      exact (blk (h.rC i b (by omega) hb) (by simp) (by simp)).2

def AddPost (role : Nat → Role) (w : World) (B S M gv gl gr : Nat) (vt vm : Value) (head n : Nat) (wl : Int → List Nat) (cs : List Cl) (tr : List En) (mk : List Nat) (c : Cl) (e : Ending) (w' : World) : Prop :=
  e = .returned (.int .i64 (cs.length : Int)) ∧ ∃ role' vc' cv' wo', Step AddT role w role' w' ∧ SolIn w' B role' S M gv gl gr vc' vt vm head n cv' wo' (fun x => if x ∈ c.take 2 then wl x ++ [cs.length] else wl x) (cs ++ [c]) tr mk

set_option maxHeartbeats 4000000 in
set_option maxRecDepth 100000 in
theorem add_c (h : SolIn w B role S M gv gl gr vc vt vm head n cv wo wl cs tr mk) (hB : B ≤ w.heap.size) (hn : n ≤ 1000) {vn : Value} {c : Cl} (hc : w.ownsRow B 3 1 vn c.length (intsI c)) (hr : ∀ b, vn.ownBlock = some b → role b = .clause cs.length)
    (h2 : 2 ≤ c.length) (hok : ∀ x ∈ c, Lok n x) (hne : c.Nodup) (hcs : cs.length ≤ 4398046511104) (hwl : ∀ x ∈ c, (wl x).length ≤ 4398046511104) :
    Calls Try.prog 30 #[.pointer (some ⟨S, 0, none⟩), vn] w (AddPost role w B S M gv gl gr vt vm head n wl cs tr mk c) := by
  obtain ⟨ca, cc, hvc⟩ := ownsRow_slice h.crow
  subst hvc
  obtain ⟨gc, ck, hvn, hk1, hk2⟩ := (ownsRow_form hc).resolve_left (fun h => by have := h.2; omega)
  subst hvn
  obtain ⟨Q, hQ⟩ : ∃ Q, AddPost role w B S M gv gl gr vt vm head n wl cs tr mk c = Q := ⟨_, rfl⟩
  rw [hQ]
  replace hQ := Lib.hid hQ
  have HH := Lib.hid h
  have HC := Lib.hid hc
  have HR := Lib.hid hr
  have HB0 := Lib.hid hB
  have HOK := Lib.hid hok
  have HNE := Lib.hid hne
  have HWL := Lib.hid hwl
  clear h hc hr hB hok hne hwl
  obtain ⟨i24, hi24, hz240, hz241, hz242⟩ := info_parts info24
  obtain ⟨m, hm⟩ : ∃ m, m = cs.length := ⟨_, rfl⟩
  obtain ⟨k, hk⟩ : ∃ k, k = c.length := ⟨_, rfl⟩
  rw [← hk] at hk1 h2 ⊢
  rw [← hm] at hcs
  obtain ⟨WA, hWA⟩ : ∃ WA, w.alloc (.cells #[.slice (some ⟨gc, 0, none⟩) k ck] 24) = WA := ⟨_, rfl⟩
  have HWA : Hid (Below w.heap.size w WA ∧ BoxN WA w.heap.size [.slice (some ⟨gc, 0, none⟩) k ck] 24 ∧ WA.heap.size = w.heap.size + 1) := by
    rw [← hWA]
    exact ⟨below1 _ _, boxN_alloc _ _ _, by simp⟩
  have HBA : Hid (BoxN WA S [.slice ca m cc, .map (some M), .slice (some ⟨gv, 0, none⟩) n n, .slice (some ⟨gl, 0, none⟩) n n, .slice (some ⟨gr, 0, none⟩) n n, vt, vm, .int .i64 (head : Int)] 54) := by rw [hm]; exact HH.out.box.below HWA.out.1
  have HOWN : Hid (WA.ownsRow B 24 1 (.slice ca m cc) m ((List.range m).map cv)) := by rw [hm]; exact ownsRow_below HH.out.crow HWA.out.1
  have hWB : Hid (B ≤ WA.heap.size) := Nat.le_trans HB0.out HWA.out.1.size
  have HOT : Hid (∀ W, WA.grownBy W (Value.slice ca m cc).ownBlock → BoxN W S [.slice ca m cc, .map (some M), .slice (some ⟨gv, 0, none⟩) n n, .slice (some ⟨gl, 0, none⟩) n n, .slice (some ⟨gr, 0, none⟩) n n, vt, vm, .int .i64 (head : Int)] 54) := fun W hg => HBA.out.to (hg.block S HBA.out.lt (fun e => by rw [hm] at e; have h1 := HH.out.rc S e.symm; rw [HH.out.rS] at h1; cases h1))
  have b0 := HBA.out.cell (j := 0) rfl
  have b0' : w.cell? ⟨S, 0, none⟩ = some (.slice ca m cc) := by rw [hm]; exact HH.out.box.cell (j := 0) rfl
  replace hm := Lib.hid hm
  replace hk := Lib.hid hk
  go_enter Try.func30, Try.ntmps30
  go_upto_region 2 with (at_builtin; refine wpList_append_lies _ rfl (.tmp 12) (.tmp 14) 23 rfl B 24 i24 (.slice none 0 0) 1 24 Try.underlying23 hi24 hz240 hz241 hz242 rfl (by decide) (.slice ca m cc) m ((List.range m).map cv) rfl HOWN.out ⟨w.heap.size, 0, none⟩ 1 1 [.slice (some ⟨gc, 0, none⟩) k ck] rfl rfl (World.news_of_block (cs := #[.slice (some ⟨gc, 0, none⟩) k ck]) (t := 24) (fr := (0, 0)) HWA.out.2.1) (by simp [Value.oneCell']) (by omega) (by unfold maxLen; omega) (by omega) hWB.out WA.heap.size rfl ?_; intro g2 cap2 w10 hown10 hgrow10 hat10 hlt10; have c10 := (HOT.out _ hgrow10).cell (j := 0) rfl; have f10 := (HOT.out _ hgrow10).frozen 0)
  obtain ⟨W3, hW3⟩ : ∃ W3, w10.setCell ⟨S, 0, none⟩ (.slice (some ⟨g2, 0, none⟩) (m + 1) cap2) = W3 := ⟨_, rfl⟩
  obtain ⟨role3, cv3, HS3⟩ : ∃ role3 cv3, Hid (Step AddT role w role3 W3 ∧ SolIn W3 B role3 S M gv gl gr (.slice (some ⟨g2, 0, none⟩) (m + 1) cap2) vt vm head n cv3 wo wl (cs ++ [c]) tr mk ∧ cv3 m = .slice (some ⟨gc, 0, none⟩) k ck) := by
    rw [← hW3]
    have hm' := hm.out
    have hc' := HC.out
    have hk' := hk.out
    subst hm'
    subst hk'
    obtain ⟨role3, h1, h2⟩ := HH.out.more HB0.out HWA.out.1 hown10 hgrow10 hat10 hlt10 hc' HR.out
    exact ⟨role3, _, h1, h2, if_pos rfl⟩
  rw [hW3]
  clear hW3 c10 f10 hown10 hgrow10 hat10 hlt10 b0 b0' HOT HOWN HBA HWA hWA WA hWB HC HR
  obtain ⟨q, hq⟩ : ∃ q, q = m + 1 := ⟨_, rfl⟩
  rw [← hq] at HS3
  have b0 := HS3.out.2.1.box.cell (j := 0) rfl
  have hq1 : (q : Int) - 1 = (m : Int) := by omega
  have hqb : (q : Int) ≤ 4398046511105 := by omega
  have hk3 : (2 : Int) ≤ (k : Int) := by omega
  replace hq := Lib.hid hq
  have hk4 : (2 : Int) ≤ (ck : Int) := by omega
  have hmin : min (2 : Int) (k : Int) = 2 := by omega
  have hk5 : ¬ ((k : Int) < 2) := by omega
  go_wp2_with fail
  go_loopw [30] (fun vi wr => ∃ (i : Nat), vi = .int .i64 i ∧ i ≤ 2 ∧ Hid (∃ role2 wo2, Step AddT role w role2 wr ∧ SolIn wr B role2 S M gv gl gr (.slice (some ⟨g2, 0, none⟩) q cap2) vt vm head n cv3 wo2 (fun x => if x ∈ c.take i then wl x ++ [m] else wl x) (cs ++ [c]) tr mk)) (fun vi _ => 2 - (intOf vi).toNat)
  case atStart => exact ⟨0, rfl, Nat.zero_le _, role3, wo, HS3.out.1, HS3.out.2.1.congr fun l => by simp⟩
  case round =>
    obtain ⟨i, rfl, hi2, HX⟩ := hrel
    obtain ⟨role2, wo2, hst, hsol⟩ := HX.out
    clear HX
    by_cases hlt : i < 2
    · have hi1 : (i : Int) < 2 := by omega
      have hik : i < c.length := by have := hk.out; omega
      have hcl : wr.ownsRow B 3 1 (.slice (some ⟨gc, 0, none⟩) k ck) k (intsI c) := by
        have h1 := hsol.clause m c (by rw [hm.out]; simp)
        rw [HS3.out.2.2, ← hk.out] at h1
        exact h1
      have c0 : wr.cell? ⟨gc, i, none⟩ = some (.int .i64 c[i]) := ownsRow_cell hcl (intsI_get hik)
      have hl : Lok n c[i] := HOK.out _ (List.getElem_mem hik)
      have hci : c[i] ∉ c.take i := fun hh => by
        obtain ⟨j, hj, he⟩ := List.mem_iff_getElem.1 hh
        rw [List.length_take] at hj
        rw [List.getElem_take] at he
        have := (List.getElem_inj HNE.out).1 he
        omega
      have hwb := HWL.out _ (List.getElem_mem hik)
      have htk : ∀ x, (x ∈ c.take (i + 1)) = (x ∈ c.take i ∨ x = c[i]) := fun x => by
        rw [List.take_succ_eq_append_getElem hik, List.mem_append, List.mem_singleton]
      obtain ⟨l, hle⟩ : ∃ l, l = c[i] := ⟨_, rfl⟩
      rw [← hle] at c0 hl hci hwb htk
      have HSTEP : Hid (∀ w3 role' wo', Step (fun r => r = .wlist l ∨ r = .kept ∨ r = .map) role2 wr role' w3 → SolIn w3 B role' S M gv gl gr (.slice (some ⟨g2, 0, none⟩) q cap2) vt vm head n cv3 wo' (fun x => if x = l then (if l ∈ c.take i then wl l ++ [m] else wl l) ++ [m] else if x ∈ c.take i then wl x ++ [m] else wl x) (cs ++ [c]) tr mk →
          ∃ role2 wo2, Step AddT role w role2 w3 ∧ SolIn w3 B role2 S M gv gl gr (.slice (some ⟨g2, 0, none⟩) q cap2) vt vm head n cv3 wo2 (fun x => if x ∈ c.take (i + 1) then wl x ++ [m] else wl x) (cs ++ [c]) tr mk) := fun w3 role' wo' h1 h2 =>
        ⟨role', wo', (hst.trans h1).mono (by rintro r (e | e | e | e); exact e; exact .inr (.inr (.inr (.inr ⟨l, e⟩))); exact .inr (.inr (.inr (.inl e))); exact .inr (.inr (.inl e))), h2.congr fun x => by
          simp only [htk]
          by_cases e : x = l
          · subst e
            simp [hci]
          · simp [e]⟩
      replace hsol := Lib.hid hsol
      replace hst := Lib.hid hst
      have hwlen : ((fun x => if x ∈ c.take i then wl x ++ [m] else wl x) l).length ≤ 4398046511104 := by simp only [hci, if_false]; exact hwb
      replace hcl := Lib.hid hcl
      clear hci hwb htk
      replace hle := Lib.hid hle
      have b1 := hsol.out.box.cell (j := 1) rfl
      go_upto_region 6 with fail
      refine wp_region_ord (fun W => W.heap[S]? = wr.heap[S]? ∧ W.heap[M]? = wr.heap[M]?) 14
        [(true, 0), (true, 1), (true, 2), (true, 3), (true, 4), (true, 5), (true, 6), (true, 7), (true, 8), (true, 9), (true, 10), (true, 11), (false, 12), (false, 13), (false, 14)] (by kernel_rfl) (by kernel_rfl) (fun _ _ d _ _ h => by cases d <;> exact h) ⟨rfl, rfl⟩ ?_
      intro wd hwd hS
      simp only [ordOps, List.map_cons, List.map_nil, Array.getD_eq_getD_getElem?, List.getElem?_toArray, List.getElem?_cons_succ, List.getElem?_cons_zero, Option.getD_some]
      have HQ1 : Hid (∀ W : World, W.heap[S]? = wr.heap[S]? → W.cell? ⟨S, 1, none⟩ = some (.map (some M))) := fun W hW => (hsol.out.box.to hW).cell (j := 1) rfl
      have HQ2 : Hid (∀ W : World, W.heap[M]? = wr.heap[M]? → (Instr.lookup 52 (.map (some M)) (.int .i64 l) false).run Try.prog W = .ok ((wo2 l).getD (.slice none 0 0)) W) := fun W hW => hsol.out.look hW hl hn
      obtain ⟨vw, hvw⟩ : ∃ vw, vw = (wo2 l).getD (.slice none 0 0) := ⟨_, rfl⟩
      rw [← hvw] at HQ2
      replace hvw := Lib.hid hvw
      iterate 12 (refine wpOrd_q rfl _ (fun w' hS' K hK => (by have q1 := HQ1.out w' hS'.1; have q2 := HQ2.out w' hS'.2; clear hS'; go_simp; exact hK)) (fun K hK => ?_); go_simp; refine hK _ ?_; clear hK K)
      have hwdB : Hid (Below wr.heap.size wr wd) := by rw [hwd.out]; exact below_dr1 (Below.refl _ _)
      obtain ⟨wa, hwa⟩ : ∃ wa, wd.alloc (.cells #[.int .i64 (m : Int)] 3) = wa := ⟨_, rfl⟩
      have HWa : Hid (Below wr.heap.size wr wa ∧ BoxN wa wd.heap.size [.int .i64 (m : Int)] 3) := by
        rw [← hwa]
        exact ⟨hwdB.out.trans (below_to (below1 wd _) hwdB.out.size), boxN_alloc _ _ _⟩
      have HaS : wa.heap[S]? = wr.heap[S]? ∧ wa.heap[M]? = wr.heap[M]? := ⟨HWa.out.1.block S hsol.out.box.lt, HWa.out.1.block M hsol.out.watch.lt⟩
      refine wpOrd_l rfl (fun K hK => ?_)
      go_simp
      refine hK _ _ ⟨fun _ => HaS, ?_⟩
      clear hK K
      have HROW : Hid (RowZ wa B vw (natsI (if l ∈ c.take i then wl l ++ [m] else wl l))) := by
        rw [hvw.out]
        refine (hsol.out.wlist l).to fun hne b hb => ?_
        cases hw : wo2 l with
        | none => rw [hw] at hb; cases hb
        | some v =>
          rw [hw] at hb hne
          exact HWa.out.1.block b (hsol.out.hi b (by rw [hsol.out.rW l b v hw hne hb]; simp))
      refine wpOrd_l rfl (fun K hK => ?_)
      refine wp_append_z (.tmp 44) (.tmp 46) rfl rfl HROW.out rfl ⟨wd.heap.size, 0, none⟩ 1 1 [.int .i64 (m : Int)] rfl rfl (World.news_of_block (cs := #[.int .i64 (m : Int)]) (t := 3) (fr := (0, 0)) HWa.out.2) (by simp [Value.oneCell']) (by omega) (by rw [natsI_len]; have := hwlen; simp only at this; omega) (Nat.le_trans HB0.out (Nat.le_trans hst.out.size HWa.out.1.size)) ?_
      intro g9 cap9 w9 row9 hown9 hgrow9 hat9 hlt9 hrow9
      rw [hvw.out] at hrow9
      obtain ⟨w12, role12, hrun12, hst12, hsol12⟩ := hsol.out.watched (Nat.le_trans HB0.out hst.out.size) HWa.out.1 hl hn hown9 hgrow9 hat9 hlt9 hrow9
      have HrS : ∀ b R, role2 b = R → R ≠ .wlist l → some b ≠ row9 := fun b R hb hR e => by
        obtain ⟨h1, h2⟩ := hrow9 b e.symm
        cases hw : wo2 l with
        | none => rw [hw] at h1; cases h1
        | some v =>
          rw [hw] at h1 h2
          exact hR (hb.symm.trans (hsol.out.rW l b v hw h2 h1))
      have H9 : w9.heap[S]? = wr.heap[S]? ∧ w9.heap[M]? = wr.heap[M]? := ⟨(hgrow9.block S (Nat.lt_of_lt_of_le hsol.out.box.lt HWa.out.1.size) (HrS S _ hsol.out.rS (by simp))).trans HaS.1, (hgrow9.block M (Nat.lt_of_lt_of_le hsol.out.watch.lt HWa.out.1.size) (HrS M _ hsol.out.rM (by simp))).trans HaS.2⟩
      refine hK _ _ ⟨fun _ => H9, ?_⟩
      clear hK K
      refine wpOrd_l rfl (fun K hK => ?_)
      go_simp
      refine hK _ _ ⟨fun h => absurd rfl h, ?_⟩
      clear hK K
      refine wpOrd_nil ?_
      have HFIN := Lib.hid (HSTEP.out w12 role12 _ hst12 hsol12)
      clear hown9 hgrow9 hat9 hlt9 hrow9 hrun12 hst12 hsol12 HrS H9 HROW HaS HQ1 HQ2 HSTEP hwlen b1 c0
      go_wp2_with fail
      go_roundw
      case rel => exact ⟨i + 1, by go_num, by omega, HFIN.out⟩
      case measure => simp [intOf]; omega
    · have hi : i = 2 := by omega
      subst hi
      obtain ⟨role2, wo2, hst, hsol⟩ := (⟨role2, wo2, hst, hsol⟩ : ∃ role2 wo2, Step AddT role w role2 wr ∧ SolIn wr B role2 S M gv gl gr (.slice (some ⟨g2, 0, none⟩) q cap2) vt vm head n cv3 wo2 (fun x => if x ∈ c.take 2 then wl x ++ [m] else wl x) (cs ++ [c]) tr mk)
      replace hsol := Lib.hid hsol
      replace hst := Lib.hid hst
      go_wp2_with fail
      rw [← hQ.out]
      unfold AddPost
      rw [← hm.out]
      exact ⟨rfl, role2, _, cv3, wo2, hst.out, hsol.out⟩
end
end Go.Proofs.Ytkeagjphddcjeaa
