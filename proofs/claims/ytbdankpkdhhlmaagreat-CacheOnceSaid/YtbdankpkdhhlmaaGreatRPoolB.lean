/-
  The document's pool in memory; it is asked: Len, Has, Package, Repo. Helper text; the conditions are those typed.
  The document's pool is asked for a package, for a repository; a new one. Helper text; the conditions are those typed.
-/
import Derived.Test.YtbdankpkdhhlmaaGreatRowsX
import Derived.Test.YtbdankpkdhhlmaaGreatQuietTail
namespace Go.Proofs.YtbdankpkdhhlmaaGreat
set_option linter.unusedVariables false
set_option linter.unusedSimpArgs false
open Go.RowKit Go.Maps

/-- What adding repositories builds: the pool's, and the document's. -/
inductive Built : List RepoT → List RepoH → List KeptT → List (Nat × Nat) → Prop
  | nil : Built [] [] [] []
  | add {rl rs ks ats} (r : RepoT) (h : Built rl rs ks ats) : Built (rl ++ [r]) (rs ++ [⟨r.name, r.prio, r.inst⟩]) (ks ++ r.pkgs.map (fun p => (⟨p, rs.length⟩ : KeptT))) (ats ++ (List.range r.pkgs.length).map fun i => (rl.length, i))
theorem Built.len {rl : List RepoT} {rs : List RepoH} {ks : List KeptT} {ats : List (Nat × Nat)} (h : Built rl rs ks ats) : rs.length = rl.length ∧ ks.length = ats.length := by
  induction h with
  | nil => exact ⟨rfl, rfl⟩
  | add r h ih =>
    obtain ⟨h1, h2⟩ := ih
    exact ⟨by simp [h1], by simp [h2]⟩
theorem Built.head {rl : List RepoT} {rs : List RepoH} {ks : List KeptT} {ats : List (Nat × Nat)} (h : Built rl rs ks ats) : ∀ k (hk : k < rl.length), rs[k]? = some ⟨rl[k].name, rl[k].prio, rl[k].inst⟩ := by
  induction h with
  | nil => intro k hk; exact absurd hk (Nat.not_lt_zero _)
  | add r h ih =>
    rename_i rl rs ks ats
    intro k hk
    have hl := h.len.1
    by_cases e : k < rl.length
    · rw [List.getElem?_append_left (by omega), List.getElem_append_left e]
      exact ih k e
    · have e2 : k = rl.length := by simp at hk; omega
      subst e2
      rw [List.getElem?_append_right (by omega)]
      simp [hl]
theorem Built.at_ {rl : List RepoT} {rs : List RepoH} {ks : List KeptT} {ats : List (Nat × Nat)} (h : Built rl rs ks ats) : ∀ i (hi : i < ks.length), ∃ k j, ats[i]? = some (k, j) ∧ ks[i].at_ = k ∧ ∃ (hk : k < rl.length) (hj : j < rl[k].pkgs.length), rl[k].pkgs[j] = ks[i].pkg := by
  induction h with
  | nil => intro i hi; exact absurd hi (Nat.not_lt_zero _)
  | add r h ih =>
    rename_i rl rs ks ats
    intro i hi
    obtain ⟨l1, l2⟩ := h.len
    by_cases e : i < ks.length
    · obtain ⟨k, j, h1, h2, hk, hj, h3⟩ := ih i e
      refine ⟨k, j, by rw [List.getElem?_append_left (by omega)]; exact h1, by rw [List.getElem_append_left e]; exact h2, by simp; omega, ?_, ?_⟩
      · rw [List.getElem_append_left hk]; exact hj
      · simp only [List.getElem_append_left hk, List.getElem_append_left e]
        exact h3
    · simp only [List.length_append, List.length_map] at hi
      have hi2 : i - ks.length < r.pkgs.length := by omega
      refine ⟨rl.length, i - ks.length, ?_, ?_, by simp, ?_, ?_⟩
      · rw [List.getElem?_append_right (by omega), l2, List.getElem?_map, List.getElem?_range (by omega)]
        rfl
      · rw [List.getElem_append_right (by omega)]
        simp [l1]
      · simp only [List.getElem_append_right (Nat.le_refl _), Nat.sub_self, List.getElem_cons_zero]
        exact hi2
      · simp only [List.getElem_append_right (Nat.le_refl _), Nat.sub_self, List.getElem_cons_zero]
        simp only [List.getElem_append_right (show ks.length ≤ i by omega), List.getElem_map]

/-- The document's pool at Q; what the packages hold lies in the caller's memory, below B. -/
structure MIn (w : World) (B : Nat) (S : Nat → Prop) (Q : Nat) (vr va : Value) (kd : Int) (rl : List RepoT) (ats : List (Nat × Nat)) : Prop where
  box : BoxN w Q [.int .i64 kd, vr, va] 37
  rrow : ∃ xs, w.ownsRow B 40 4 vr rl.length xs ∧ ∀ k (h : k < rl.length), ∃ v, PkgsV w S rl[k].pkgs v ∧ ∀ r u, ([.string rl[k].name, .int .i64 rl[k].prio, .bool rl[k].inst, v] : List Value)[r]? = some u → xs[k * 4 + r]? = some u
  arow : ∃ xs, w.ownsRow B 87 2 va ats.length xs ∧ ∀ i k j, ats[i]? = some (k, j) → xs[i * 2]? = some (.int .i64 (k : Int)) ∧ xs[i * 2 + 1]? = some (.int .i64 (j : Int))
  lo : B ≤ Q
  sb : ∀ b, S b → b < B
  rne : vr.ownBlock ≠ some Q
  ane : va.ownBlock ≠ some Q
  apart : ∀ b, vr.ownBlock = some b → va.ownBlock ≠ some b
/-- Its blocks. -/
def MB (Q : Nat) (vr va : Value) (b : Nat) : Prop := b = Q ∨ vr.ownBlock = some b ∨ va.ownBlock = some b
section
variable {w w' : World} {B : Nat} {S : Nat → Prop} {Q : Nat} {vr va : Value} {kd : Int} {rl : List RepoT} {ats : List (Nat × Nat)}
theorem MIn.keep (h : MIn w B S Q vr va kd rl ats) (hk : ∀ b, MB Q vr va b → w'.heap[b]? = w.heap[b]?) (hS : ∀ b, b < B → b < w.heap.size → w'.heap[b]? = w.heap[b]?) : MIn w' B S Q vr va kd rl ats := by
  obtain ⟨xs, h1, h2⟩ := h.rrow
  obtain ⟨ys, h3, h4⟩ := h.arow
  refine ⟨h.box.to (hk Q (.inl rfl)), ⟨xs, ownsRow_to h1 fun g hg => hk g (.inr (.inl hg)), fun k hkl => ?_⟩, ⟨ys, ownsRow_to h3 fun g hg => hk g (.inr (.inr hg)), h4⟩, h.lo, h.sb, h.rne, h.ane, h.apart⟩
  obtain ⟨v, h5, h6⟩ := h2 k hkl
  exact ⟨v, h5.keep (fun _ h => h) (fun b hb hl => hS b (h.sb b hb) hl), h6⟩
theorem MIn.lt (h : MIn w B S Q vr va kd rl ats) {b : Nat} (hb : MB Q vr va b) : B ≤ b ∧ b < w.heap.size := by
  obtain ⟨xs, h1, h2⟩ := h.rrow
  obtain ⟨ys, h3, h4⟩ := h.arow
  rcases hb with rfl | hb | hb
  · exact ⟨h.lo, h.box.lt⟩
  · exact h1.lt b hb
  · exact h3.lt b hb
theorem MIn.below (h : MIn w B S Q vr va kd rl ats) (hb : Below w.heap.size w w') : MIn w' B S Q vr va kd rl ats :=
  h.keep (fun b hm => hb.block b (h.lt hm).2) (fun b _ hl => hb.block b hl)
theorem MIn.rform (h : MIn w B S Q vr va kd rl ats) : ∃ a c, vr = .slice a rl.length c := by
  obtain ⟨xs, h1, h2⟩ := h.rrow
  rcases ownsRow_form h1 with ⟨e, h0⟩ | ⟨g, c, e, _⟩
  · exact ⟨none, 0, by rw [e, h0]⟩
  · exact ⟨_, c, e⟩
theorem MIn.aform (h : MIn w B S Q vr va kd rl ats) : ∃ a c, va = .slice a ats.length c := by
  obtain ⟨xs, h1, h2⟩ := h.arow
  rcases ownsRow_form h1 with ⟨e, h0⟩ | ⟨g, c, e, _⟩
  · exact ⟨none, 0, by rw [e, h0]⟩
  · exact ⟨_, c, e⟩
/-- The rows' cells, whatever world that has their blocks. -/
theorem MIn.at_ (h : MIn w B S Q vr va kd rl ats) {i k j : Nat} (hi : ats[i]? = some (k, j)) : ∃ A c, va = .slice (some ⟨A, 0, none⟩) ats.length c ∧ A < w.heap.size ∧ A ≠ Q ∧ ∀ W : World, W.heap[A]? = w.heap[A]? → W.cell? ⟨A, i * 2, none⟩ = some (.int .i64 (k : Int)) ∧ W.cell? ⟨A, i * 2 + 1, none⟩ = some (.int .i64 (j : Int)) := by
  obtain ⟨xs, h1, h2⟩ := h.arow
  have hl := (List.getElem?_eq_some_iff.1 hi).1
  rcases ownsRow_form h1 with ⟨e, h0⟩ | ⟨A, c, e, _⟩
  · omega
  · subst e
    refine ⟨A, c, rfl, (h1.lt A rfl).2, fun e => h.ane (by rw [e]; rfl), fun W hW => ?_⟩
    have h3 := ownsRow_to (w' := W) h1 (fun g hg => by cases hg; exact hW)
    exact ⟨ownsRow_cell h3 (h2 i k j hi).1, ownsRow_cell h3 (h2 i k j hi).2⟩
theorem MIn.repo (h : MIn w B S Q vr va kd rl ats) {k : Nat} (hk : k < rl.length) : ∃ G c ap np cp, vr = .slice (some ⟨G, 0, none⟩) rl.length c ∧ G < w.heap.size ∧ G ≠ Q ∧ PkgsV w S rl[k].pkgs (.slice ap np cp) ∧ ∀ W : World, W.heap[G]? = w.heap[G]? → CellsAt W G (k * 4) [.string rl[k].name, .int .i64 rl[k].prio, .bool rl[k].inst, .slice ap np cp] := by
  obtain ⟨xs, h1, h2⟩ := h.rrow
  obtain ⟨v, hv, hc⟩ := h2 k hk
  obtain ⟨ap, cp, e, _⟩ := id hv
  subst e
  rcases ownsRow_form h1 with ⟨e, h0⟩ | ⟨G, c, e, _⟩
  · omega
  · subst e
    refine ⟨G, c, ap, _, cp, rfl, (h1.lt G rfl).2, fun e => h.rne (by rw [e]; rfl), hv, fun W hW => ?_⟩
    have h3 := ownsRow_to (w' := W) h1 (fun g hg => by cases hg; exact hW)
    exact fun r u hr => ownsRow_cell h3 (hc r u hr)

/-- Len. -/
theorem rlen_c (h : MIn w B S Q vr va kd rl ats) : Calls Tryz.prog 14 #[.pointer (some ⟨Q, 0, none⟩)] w fun e w' => e = .returned (.int .i64 (ats.length : Int)) ∧ w = w' := by
  obtain ⟨a, c, rfl⟩ := h.aform
  have c2 := h.box.cell (j := 2) rfl
  clear h
  go_enter Tryz.func14, Tryz.ntmps14
  go_wp2_with fail
  go_ret
  exact ⟨rfl, rfl⟩
end
end Go.Proofs.YtbdankpkdhhlmaaGreat
namespace Go.Proofs.YtbdankpkdhhlmaaGreat
set_option linter.unusedVariables false
set_option linter.unusedSimpArgs false
open Go.RowKit Go.Maps

section
variable {w : World} {B : Nat} {S : Nat → Prop} {Q : Nat} {vr va : Value} {kd : Int} {rl : List RepoT} {ats : List (Nat × Nat)}
set_option maxHeartbeats 4000000 in
set_option maxRecDepth 100000 in
/-- Repo. -/
theorem rrepo_c (h : MIn w B S Q vr va kd rl ats) (hal : ats.length ≤ 200) (hrl : rl.length ≤ 8) {i k j : Nat} (hi : ats[i]? = some (k, j)) (hk : k < rl.length) {r : RepoT} (hr : rl[k] = r) :
    Calls Tryz.prog 99 #[.pointer (some ⟨Q, 0, none⟩), .int .i64 (i : Int)] w fun e w' => (∃ a n c, e = .returned (.agg #[.string r.name, .int .i64 r.prio, .bool r.inst, .slice a n c])) ∧ Below w.heap.size w w' := by
  have hil : i < ats.length := (List.getElem?_eq_some_iff.1 hi).1
  obtain ⟨A, ca, eA, hAlt, hAQ, hA⟩ := h.at_ hi
  obtain ⟨G, cg, ap, np, cp, eG, hGlt, hGQ, hpk, hG⟩ := h.repo hk
  subst eA eG
  rw [hr] at hpk hG
  have hbox := h.box
  clear h hi hr
  generalize ats.length = n at *
  generalize rl.length = m at *
  have hi0 : (0 : Int) ≤ (i : Int) := by omega
  have hi1 : (i : Int) < (n : Int) := by omega
  have hk0 : (0 : Int) ≤ (k : Int) := by omega
  have hk1 : (k : Int) < (m : Int) := by omega
  have hQlt := hbox.lt
  obtain ⟨w1, e1⟩ : ∃ w1, w.alloc (.cells #[.string ⟨#[]⟩, .int .i64 0, .bool false, .slice none 0 0] 40) = w1 := ⟨_, rfl⟩
  have HB1 : Hid (Below w.heap.size w w1 ∧ BoxN w1 w.heap.size [.string ⟨#[]⟩, .int .i64 0, .bool false, .slice none 0 0] 40) := by
    rw [← e1]
    exact ⟨below1 _ _, boxN_alloc _ _ _⟩
  have HS : Hid (∀ W : World, W.heap[Q]? = w1.heap[Q]? → W.heap[A]? = w1.heap[A]? → W.heap[G]? = w1.heap[G]? → BoxN W Q [.int .i64 kd, .slice (some ⟨G, 0, none⟩) m cg, .slice (some ⟨A, 0, none⟩) n ca] 37 ∧ W.cell? ⟨A, i * 2, none⟩ = some (.int .i64 (k : Int)) ∧ CellsAt W G (k * 4) [.string r.name, .int .i64 r.prio, .bool r.inst, .slice ap np cp]) := fun W h1 h2 h3 =>
    ⟨hbox.to (h1.trans (HB1.out.1.block Q hQlt)), (hA W (h2.trans (HB1.out.1.block A hAlt))).1, hG W (h3.trans (HB1.out.1.block G hGlt))⟩
  clear hpk hA hG hbox hil hk
  go_enter Tryz.func99, Tryz.ntmps99
  go_wp2_with fail
  refine wp_quiet_tail 14 (by kernel_rfl) (by kernel_rfl) ?_
  intro wd hwd
  have hb := hwd.out
  obtain ⟨hbx, a0, hgc⟩ := HS.out wd (by rw [hb]; rfl) (by rw [hb]; rfl) (by rw [hb]; rfl)
  have q1 := hbx.cell (j := 1) rfl
  have q2 := hbx.cell (j := 2) rfl
  have g0 := hgc 0 _ rfl
  have g1 := hgc 1 _ rfl
  have g2 := hgc 2 _ rfl
  have g3 := hgc 3 _ rfl
  rw [Nat.add_zero] at g0
  have HBd : Hid (Below w.heap.size w wd ∧ BoxN wd w.heap.size [.string ⟨#[]⟩, .int .i64 0, .bool false, .slice none 0 0] 40) := by
    rw [hb]
    exact ⟨below_dr1 HB1.out.1, HB1.out.2⟩
  clear hbx hgc hb
  simp only [List.take_succ_cons, List.take_zero, List.drop_succ_cons, List.drop_zero]
  repeat (go_big_quiet_step (fail))
  refine wpQuiet_nil ?_
  have z0 := HBd.out.2.cell (j := 0) rfl
  have z1 := HBd.out.2.cell (j := 1) rfl
  have z2 := HBd.out.2.cell (j := 2) rfl
  have z3 := HBd.out.2.cell (j := 3) rfl
  have y0 := HBd.out.2.frozen 0
  have y1 := HBd.out.2.frozen 1
  have y2 := HBd.out.2.frozen 2
  have y3 := HBd.out.2.frozen 3
  obtain ⟨w8, e8⟩ : ∃ w8, ((((wd.setCell ⟨w.heap.size, 0, none⟩ (.string r.name)).setCell ⟨w.heap.size, 1, none⟩ (.int .i64 r.prio)).setCell ⟨w.heap.size, 2, none⟩ (.bool r.inst)).setCell ⟨w.heap.size, 3, none⟩ (.slice ap np cp)) = w8 := ⟨_, rfl⟩
  have HW : Hid (Below w.heap.size w w8 ∧ BoxN w8 w.heap.size [.string r.name, .int .i64 r.prio, .bool r.inst, .slice ap np cp] 40) := by
    rw [← e8]
    exact ⟨HBd.out.1.trans (fill4_below (Nat.le_refl _) _ _ _ _), fill4 HBd.out.2 _ _ _ _⟩
  go_wp2_with fail
  have x0 := HW.out.2.cell (j := 0) rfl
  have x1 := HW.out.2.cell (j := 1) rfl
  have x2 := HW.out.2.cell (j := 2) rfl
  have x3 := HW.out.2.cell (j := 3) rfl
  refine bodyPost_ret (v := .agg #[.string r.name, .int .i64 r.prio, .bool r.inst, .slice ap np cp]) (by simp [results, Tryz.results99, go_sem, x0, x1, x2, x3]) rfl ?_
  exact ⟨⟨ap, np, cp, rfl⟩, HW.out.1⟩
set_option maxHeartbeats 4000000 in
set_option maxRecDepth 100000 in
/-- Package. -/
theorem rpackage_c (h : MIn w B S Q vr va kd rl ats) (hal : ats.length ≤ 200) (hrl : rl.length ≤ 8) {i k j : Nat} (hi : ats[i]? = some (k, j)) (hk : k < rl.length) (hj : j < rl[k].pkgs.length) {p : PkgT} (hp : rl[k].pkgs[j] = p) :
    Calls Tryz.prog 15 #[.pointer (some ⟨Q, 0, none⟩), .int .i64 (i : Int)] w fun e w' => (∃ (pa : Fin 7 → Option Addr) (pc : Fin 7 → Nat) (af : Option Addr) (nf cf : Nat), e = .returned (.agg #[.string p.name, .string p.evr, .string p.arch, .string p.vendor, .slice (pa 0) (p.n 0) (pc 0), .slice (pa 1) (p.n 1) (pc 1), .slice (pa 2) (p.n 2) (pc 2), .slice (pa 3) (p.n 3) (pc 3), .slice (pa 4) (p.n 4) (pc 4), .slice (pa 5) (p.n 5) (pc 5), .slice (pa 6) (p.n 6) (pc 6), .slice af nf cf]) ∧ PkgV w' S p (fun i => .slice (pa i) (p.n i) (pc i)) (.slice af nf cf)) ∧ Below w.heap.size w w' := by
  have hil : i < ats.length := (List.getElem?_eq_some_iff.1 hi).1
  obtain ⟨A, ca, eA, hAlt, hAQ, hA⟩ := h.at_ hi
  obtain ⟨G, cg, ap, np, cp, eG, hGlt, hGQ, hpk, hG⟩ := h.repo hk
  subst eA eG
  obtain ⟨hnp, hnb, hat0⟩ := pkgs_at hpk
  obtain ⟨b, off, rfl, hSb, hat⟩ := hat0 (by omega)
  obtain ⟨pa, pc, af, nf, cf, hpa⟩ := hat j hj
  have hjn : j < np := by omega
  rw [hp] at hpa
  have hbox := h.box
  have hblt : b < w.heap.size := World.block_lt_of_cell? w _ (hpa.cells 0 _ rfl)
  have hpa0 := Lib.hid hpa
  obtain ⟨rn, hrn⟩ : ∃ rn, rl[k].name = rn := ⟨_, rfl⟩
  obtain ⟨rp, hrp⟩ : ∃ rp, rl[k].prio = rp := ⟨_, rfl⟩
  obtain ⟨ri, hri⟩ : ∃ ri, rl[k].inst = ri := ⟨_, rfl⟩
  rw [hrn, hrp, hri] at hG
  clear h hi hp hpk hat hat0 hnp hrn hrp hri hj
  generalize ats.length = n at *
  generalize rl.length = m at *
  have hi0 : (0 : Int) ≤ (i : Int) := by omega
  have hi1 : (i : Int) < (n : Int) := by omega
  have hk0 : (0 : Int) ≤ (k : Int) := by omega
  have hk1 : (k : Int) < (m : Int) := by omega
  have hj0 : (0 : Int) ≤ (j : Int) := by omega
  have hj1 : (j : Int) < (np : Int) := by omega
  have hQlt := hbox.lt
  obtain ⟨w1, e1⟩ : ∃ w1, w.alloc (.cells #[.string ⟨#[]⟩, .string ⟨#[]⟩, .string ⟨#[]⟩, .string ⟨#[]⟩, .slice none 0 0, .slice none 0 0, .slice none 0 0, .slice none 0 0, .slice none 0 0, .slice none 0 0, .slice none 0 0, .slice none 0 0] 45) = w1 := ⟨_, rfl⟩
  have HB1 : Hid (Below w.heap.size w w1 ∧ BoxN w1 w.heap.size [.string ⟨#[]⟩, .string ⟨#[]⟩, .string ⟨#[]⟩, .string ⟨#[]⟩, .slice none 0 0, .slice none 0 0, .slice none 0 0, .slice none 0 0, .slice none 0 0, .slice none 0 0, .slice none 0 0, .slice none 0 0] 45) := by
    rw [← e1]
    exact ⟨below1 _ _, boxN_alloc _ _ _⟩
  have HS : Hid (∀ W : World, W.heap[Q]? = w1.heap[Q]? → W.heap[A]? = w1.heap[A]? → W.heap[G]? = w1.heap[G]? → W.heap[b]? = w1.heap[b]? → BoxN W Q [.int .i64 kd, .slice (some ⟨G, 0, none⟩) m cg, .slice (some ⟨A, 0, none⟩) n ca] 37 ∧ (W.cell? ⟨A, i * 2, none⟩ = some (.int .i64 (k : Int)) ∧ W.cell? ⟨A, i * 2 + 1, none⟩ = some (.int .i64 (j : Int))) ∧ CellsAt W G (k * 4) [.string rn, .int .i64 rp, .bool ri, .slice (some ⟨b, off, none⟩) np cp] ∧ CellsAt W b (off + j * 12) [.string p.name, .string p.evr, .string p.arch, .string p.vendor, .slice (pa 0) (p.n 0) (pc 0), .slice (pa 1) (p.n 1) (pc 1), .slice (pa 2) (p.n 2) (pc 2), .slice (pa 3) (p.n 3) (pc 3), .slice (pa 4) (p.n 4) (pc 4), .slice (pa 5) (p.n 5) (pc 5), .slice (pa 6) (p.n 6) (pc 6), .slice af nf cf]) := fun W h1 h2 h3 h4 =>
    ⟨hbox.to (h1.trans (HB1.out.1.block Q hQlt)), hA W (h2.trans (HB1.out.1.block A hAlt)), hG W (h3.trans (HB1.out.1.block G hGlt)), hpa.cells.keep (h4.trans (HB1.out.1.block b hblt))⟩
  clear hA hG hbox hil hk hpa
  go_enter Tryz.func15, Tryz.ntmps15
  go_wp2_with fail
  refine wp_quiet_tail 25 (by kernel_rfl) (by kernel_rfl) ?_
  intro wd hwd
  have hb := hwd.out
  obtain ⟨hbx, ⟨a0, a1⟩, hgc, hbc⟩ := HS.out wd (by rw [hb]; rfl) (by rw [hb]; rfl) (by rw [hb]; rfl) (by rw [hb]; rfl)
  have q1 := hbx.cell (j := 1) rfl
  have q2 := hbx.cell (j := 2) rfl
  have g3 := hgc 3 _ rfl
  have t0 := hbc 0 _ rfl
  have t1 := hbc 1 _ rfl
  have t2 := hbc 2 _ rfl
  have t3 := hbc 3 _ rfl
  have t4 := hbc 4 _ rfl
  have t5 := hbc 5 _ rfl
  have t6 := hbc 6 _ rfl
  have t7 := hbc 7 _ rfl
  have t8 := hbc 8 _ rfl
  have t9 := hbc 9 _ rfl
  have t10 := hbc 10 _ rfl
  have t11 := hbc 11 _ rfl
  rw [Nat.add_zero] at t0
  have HBd : Hid (Below w.heap.size w wd ∧ BoxN wd w.heap.size [.string ⟨#[]⟩, .string ⟨#[]⟩, .string ⟨#[]⟩, .string ⟨#[]⟩, .slice none 0 0, .slice none 0 0, .slice none 0 0, .slice none 0 0, .slice none 0 0, .slice none 0 0, .slice none 0 0, .slice none 0 0] 45) := by
    rw [hb]
    exact ⟨below_dr1 HB1.out.1, HB1.out.2⟩
  clear hbx hgc hbc hb
  simp only [List.take_succ_cons, List.take_zero, List.drop_succ_cons, List.drop_zero]
  repeat (go_big_quiet_step (fail))
  refine wpQuiet_nil ?_
  have z0 := HBd.out.2.cell (j := 0) rfl
  have y0 := HBd.out.2.frozen 0
  have z1 := HBd.out.2.cell (j := 1) rfl
  have y1 := HBd.out.2.frozen 1
  have z2 := HBd.out.2.cell (j := 2) rfl
  have y2 := HBd.out.2.frozen 2
  have z3 := HBd.out.2.cell (j := 3) rfl
  have y3 := HBd.out.2.frozen 3
  have z4 := HBd.out.2.cell (j := 4) rfl
  have y4 := HBd.out.2.frozen 4
  have z5 := HBd.out.2.cell (j := 5) rfl
  have y5 := HBd.out.2.frozen 5
  have z6 := HBd.out.2.cell (j := 6) rfl
  have y6 := HBd.out.2.frozen 6
  have z7 := HBd.out.2.cell (j := 7) rfl
  have y7 := HBd.out.2.frozen 7
  have z8 := HBd.out.2.cell (j := 8) rfl
  have y8 := HBd.out.2.frozen 8
  have z9 := HBd.out.2.cell (j := 9) rfl
  have y9 := HBd.out.2.frozen 9
  have z10 := HBd.out.2.cell (j := 10) rfl
  have y10 := HBd.out.2.frozen 10
  have z11 := HBd.out.2.cell (j := 11) rfl
  have y11 := HBd.out.2.frozen 11
  obtain ⟨w8, e8⟩ : ∃ w8, ((((((((((((wd.setCell ⟨w.heap.size, 0, none⟩ (.string p.name)).setCell ⟨w.heap.size, 1, none⟩ (.string p.evr)).setCell ⟨w.heap.size, 2, none⟩ (.string p.arch)).setCell ⟨w.heap.size, 3, none⟩ (.string p.vendor)).setCell ⟨w.heap.size, 4, none⟩ (.slice (pa 0) (p.n 0) (pc 0))).setCell ⟨w.heap.size, 5, none⟩ (.slice (pa 1) (p.n 1) (pc 1))).setCell ⟨w.heap.size, 6, none⟩ (.slice (pa 2) (p.n 2) (pc 2))).setCell ⟨w.heap.size, 7, none⟩ (.slice (pa 3) (p.n 3) (pc 3))).setCell ⟨w.heap.size, 8, none⟩ (.slice (pa 4) (p.n 4) (pc 4))).setCell ⟨w.heap.size, 9, none⟩ (.slice (pa 5) (p.n 5) (pc 5))).setCell ⟨w.heap.size, 10, none⟩ (.slice (pa 6) (p.n 6) (pc 6))).setCell ⟨w.heap.size, 11, none⟩ (.slice af nf cf)) = w8 := ⟨_, rfl⟩
  have HW : Hid (Below w.heap.size w w8 ∧ BoxN w8 w.heap.size [.string p.name, .string p.evr, .string p.arch, .string p.vendor, .slice (pa 0) (p.n 0) (pc 0), .slice (pa 1) (p.n 1) (pc 1), .slice (pa 2) (p.n 2) (pc 2), .slice (pa 3) (p.n 3) (pc 3), .slice (pa 4) (p.n 4) (pc 4), .slice (pa 5) (p.n 5) (pc 5), .slice (pa 6) (p.n 6) (pc 6), .slice af nf cf] 45) := by
    rw [← e8]
    exact ⟨HBd.out.1.trans (fill12_below (Nat.le_refl _) _ _ _ _ _ _ _ _ _ _ _ _), fill12 HBd.out.2 _ _ _ _ _ _ _ _ _ _ _ _⟩
  go_wp2_with fail
  have x0 := HW.out.2.cell (j := 0) rfl
  have x1 := HW.out.2.cell (j := 1) rfl
  have x2 := HW.out.2.cell (j := 2) rfl
  have x3 := HW.out.2.cell (j := 3) rfl
  have x4 := HW.out.2.cell (j := 4) rfl
  have x5 := HW.out.2.cell (j := 5) rfl
  have x6 := HW.out.2.cell (j := 6) rfl
  have x7 := HW.out.2.cell (j := 7) rfl
  have x8 := HW.out.2.cell (j := 8) rfl
  have x9 := HW.out.2.cell (j := 9) rfl
  have x10 := HW.out.2.cell (j := 10) rfl
  have x11 := HW.out.2.cell (j := 11) rfl
  refine bodyPost_ret (v := .agg #[.string p.name, .string p.evr, .string p.arch, .string p.vendor, .slice (pa 0) (p.n 0) (pc 0), .slice (pa 1) (p.n 1) (pc 1), .slice (pa 2) (p.n 2) (pc 2), .slice (pa 3) (p.n 3) (pc 3), .slice (pa 4) (p.n 4) (pc 4), .slice (pa 5) (p.n 5) (pc 5), .slice (pa 6) (p.n 6) (pc 6), .slice af nf cf]) (by simp [results, Tryz.results15, go_sem, x0, x1, x2, x3, x4, x5, x6, x7, x8, x9, x10, x11]) rfl ?_
  exact ⟨⟨pa, pc, af, nf, cf, rfl, hpa0.out.pkg.below HW.out.1⟩, HW.out.1⟩
end
end Go.Proofs.YtbdankpkdhhlmaaGreat
