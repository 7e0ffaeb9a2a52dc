/-
  The solver: the steps of propagate in memory. Helper text; the conditions are those typed.
-/
import Derived.Test.YtkeagjphddcjeaaSolE
import Derived.Test.YtkeagjphddcjeaaSatProp
import Derived.Deep.Upon
namespace Go.Proofs.Ytkeagjphddcjeaa
set_option linter.unusedVariables false
set_option linter.unusedSimpArgs false
open Go.RowKit Go.Maps Sat

theorem ownsRow_set {w : World} {B : Nat} {e : TypeId} {g n cap : Nat} {xs : List Value} (h : w.ownsRow B e 1 (.slice (some ⟨g, 0, none⟩) n cap) n xs) {j : Nat} (hj : j < n) (v : Value) : (w.setCell ⟨g, j, none⟩ v).ownsRow B e 1 (.slice (some ⟨g, 0, none⟩) n cap) n (xs.set j v) := by
  have hl := h.1
  refine ⟨by simpa using hl, ?_⟩
  rcases h.2 with ⟨e1, _⟩ | ⟨g', cap', cur, e1, hB, hg, hc, hM, hs, ht⟩
  · cases e1
  · cases e1
    refine .inr ⟨g, cap, _, rfl, hB, set_cells hg v, hc, hM, by simpa using hs, ?_⟩
    rw [← ht]
    apply List.ext_getElem?
    intro k
    by_cases hk : k < n * 1
    · rw [List.getElem?_take_of_lt hk]
      by_cases e : j = k
      · subst e
        have h1 : j < cur.size := by omega
        simp [List.getElem?_set, h1, hj]
        omega
      · rw [List.getElem?_set_ne e, List.getElem?_take_of_lt hk]
        simp [Array.getElem?_setIfInBounds, e]
    · rw [List.getElem?_eq_none (by simp; omega), List.getElem?_eq_none (by simp; omega)]
theorem intsI_set (l : List Int) (j : Nat) (x : Int) : (intsI l).set j (.int .i64 x) = intsI (l.set j x) := by
  unfold intsI
  rw [List.map_set]

section
variable {w w' : World} {B : Nat} {role role' : Nat → Role} {S M gv gl gr : Nat} {vc vt vm : Value} {head n : Nat} {cv : Nat → Value} {wo : Int → Option Value} {wl : Int → List Nat} {cs : List Cl} {tr : List En} {mk : List Nat} {T : Role → Prop}

/-- The head goes on. -/
theorem SolIn.headed (h : SolIn w B role S M gv gl gr vc vt vm head n cv wo wl cs tr mk) (hB : B ≤ w.heap.size) {w1 : World} (hs : Step (fun r => r = .box) role w role w1) {k : Nat}
    (hbox : BoxN w1 S [vc, .map (some M), .slice (some ⟨gv, 0, none⟩) n n, .slice (some ⟨gl, 0, none⟩) n n, .slice (some ⟨gr, 0, none⟩) n n, vt, vm, .int .i64 (k : Int)] 54) :
    SolIn w1 B role S M gv gl gr vc vt vm k n cv wo wl cs tr mk := by
  have blk := fun {b : Nat} {R : Role} (hb : role b = R) (h1 : R ≠ .free) (h2 : R ≠ .box) => h.blk hs hb h1 h2
  obtain ⟨fl, hl1, hl2⟩ := h.levs
  obtain ⟨fr, hr1, hr2⟩ := h.whys
  exact { h with
    box := hbox
    crow := ownsRow_to h.crow fun g hg => (blk (h.rc g hg) (by simp) (by simp)).1
    clause := fun i c hc => ownsRow_to (h.clause i c hc) fun g hg => (blk (h.rC i g (List.getElem?_eq_some_iff.1 hc).1 hg) (by simp) (by simp)).1
    watch := h.watch.block (blk h.rM (by simp) (by simp)).1
    wlist := fun l => (h.wlist l).to fun hne g hg => by
      cases hw : wo l with
      | none => rw [hw] at hg; cases hg
      | some v =>
        rw [hw] at hg hne
        exact (blk (h.rW l g v hw hne hg) (by simp) (by simp)).1
    vals := h.vals.to (blk h.rv (by simp) (by simp)).1
    levs := ⟨fl, hl1.to (blk h.rl (by simp) (by simp)).1, hl2⟩
    whys := ⟨fr, hr1.to (blk h.rr (by simp) (by simp)).1, hr2⟩
    trow := ownsRow_to h.trow fun g hg => (blk (h.rt g hg) (by simp) (by simp)).1
    mrow := ownsRow_to h.mrow fun g hg => (blk (h.rm g hg) (by simp) (by simp)).1
    hi := hs.inn }
/-- A clause's literals change places. -/
theorem SolIn.cset (h : SolIn w B role S M gv gl gr vc vt vm head n cv wo wl cs tr mk) {w1 : World} {m : Nat} {c c' : Cl} (hc : cs[m]? = some c) (hs : Step (fun r => r = .clause m) role w role w1) (hrow : w1.ownsRow B 3 1 (cv m) c'.length (intsI c')) :
    SolIn w1 B role S M gv gl gr vc vt vm head n cv wo wl (cs.set m c') tr mk := by
  have blk := fun {b : Nat} {R : Role} (hb : role b = R) (h1 : R ≠ .free) (h2 : R ≠ .clause m) => h.blk hs hb h1 h2
  have hm := (List.getElem?_eq_some_iff.1 hc).1
  obtain ⟨fl, hl1, hl2⟩ := h.levs
  obtain ⟨fr, hr1, hr2⟩ := h.whys
  exact { h with
    box := h.box.to (blk h.rS (by simp) (by simp)).1
    crow := by
      rw [List.length_set]
      exact ownsRow_to h.crow fun g hg => (blk (h.rc g hg) (by simp) (by simp)).1
    clause := fun i d hd => by
      rcases get_set hm hd with ⟨e, h3⟩ | ⟨e, h3⟩
      · subst e h3
        exact hrow
      · exact ownsRow_to (h.clause i d h3) fun g hg => (blk (h.rC i g (List.getElem?_eq_some_iff.1 h3).1 hg) (by simp) (by simp [e])).1
    watch := h.watch.block (blk h.rM (by simp) (by simp)).1
    wlist := fun l => (h.wlist l).to fun hne g hg => by
      cases hw : wo l with
      | none => rw [hw] at hg; cases hg
      | some v =>
        rw [hw] at hg hne
        exact (blk (h.rW l g v hw hne hg) (by simp) (by simp)).1
    vals := h.vals.to (blk h.rv (by simp) (by simp)).1
    levs := ⟨fl, hl1.to (blk h.rl (by simp) (by simp)).1, hl2⟩
    whys := ⟨fr, hr1.to (blk h.rr (by simp) (by simp)).1, hr2⟩
    trow := ownsRow_to h.trow fun g hg => (blk (h.rt g hg) (by simp) (by simp)).1
    mrow := ownsRow_to h.mrow fun g hg => (blk (h.rm g hg) (by simp) (by simp)).1
    rC := fun i g hi hg => h.rC i g (by rwa [List.length_set] at hi) hg
    hi := hs.inn }

/-- A kept row: owned, or of no room; its block is a kept one. -/
def KeptAt (w : World) (B : Nat) (role : Nat → Role) (v : Value) (xs : List Nat) : Prop := RowZ w B v (natsI xs) ∧ ((∀ a, v ≠ .slice (some a) 0 0) → ∀ g, v.ownBlock = some g → role g = .kept ∧ g < w.heap.size ∧ B ≤ g)
theorem KeptAt.to {w w1 : World} {role role1 : Nat → Role} {v : Value} {xs : List Nat} (h : KeptAt w B role v xs) (hs : Step T role w role1 w1) (hT : ¬ T .kept) : KeptAt w1 B role1 v xs := by
  have hk : (∀ a, v ≠ .slice (some a) 0 0) → ∀ g, v.ownBlock = some g → w1.heap[g]? = w.heap[g]? ∧ role1 g = .kept := fun hne g hg => by
    obtain ⟨h1, h2, h3⟩ := h.2 hne g hg
    obtain ⟨h4, h5⟩ := hs.same g h2 (by rw [h1]; exact hT)
    exact ⟨h4, h5.trans h1⟩
  exact ⟨h.1.to fun hne g hg => (hk hne g hg).1, fun hne g hg => ⟨(hk hne g hg).2, Nat.lt_of_lt_of_le (h.2 hne g hg).2.1 hs.size, (h.2 hne g hg).2.2⟩⟩
/-- The kept row grows. -/
theorem KeptAt.more {w w1 w2 : World} {role : Nat → Role} {v : Value} {xs : List Nat} (h : KeptAt w B role v xs) (hi : Inn role w) (hB : B ≤ w.heap.size) (hb : Below w.heap.size w w1) {g cap N : Nat} {ys : List Nat} {row : Option Nat} (hN : N = ys.length)
    (hown : w2.ownsRow B 3 1 (.slice (some ⟨g, 0, none⟩) N cap) N (natsI ys)) (hg : w1.grownBy w2 row) (hat : row = some g ∨ w1.heap.size = g) (hlt : g < w2.heap.size)
    (hrow : ∀ k, row = some k → v.ownBlock = some k ∧ ∀ a, v ≠ .slice (some a) 0 0) :
    Step (fun r => r = .kept) role w (fun b => if b = g then .kept else role b) w2 ∧ KeptAt w2 B (fun b => if b = g then .kept else role b) (.slice (some ⟨g, 0, none⟩) N cap) ys := by
  have s1 := Step.of_below hi hb
  have hrr : ∀ b, row = some b → role b = .kept := fun b hb => by
    obtain ⟨h1, h2⟩ := hrow b hb
    exact (h.2 h2 b h1).1
  have s2 := Step.of_rows s1.inn (by simp) hrr hg hat hlt
  refine ⟨(s1.trans s2).mono (by rintro r (e | e); exact e.elim; exact e), .inl (by rw [natsI_len, ← hN]; exact hown), fun _ b hb' => ?_⟩
  cases hb'
  refine ⟨if_pos rfl, hlt, ?_⟩
  rcases hat with h1 | h1
  · obtain ⟨h2, h3⟩ := hrow g h1
    exact (h.2 h3 g h2).2.2
  · have := hb.size
    show B ≤ g
    omega
/-- 'watch[l] = kept'. -/
theorem SolIn.put_kept (h : SolIn w B role S M gv gl gr vc vt vm head n cv wo wl cs tr mk) (hB : B ≤ w.heap.size) {l : Int} {v : Value} {xs : List Nat} (hl : Lok n l) (hn : n ≤ 1000) (hk : KeptAt w B role v xs) :
    ∃ w2 role2, (Instr.mapUpdate 52 (.map (some M)) (.int .i64 l) v).run Try.prog w = .ok () w2 ∧ Moved role w role2 w2 ∧
      SolIn w2 B role2 S M gv gl gr vc vt vm head n cv (fun x => if x = l then some v else wo x) (fun x => if x = l then xs else wl x) cs tr mk := by
  have hs0 : Step (fun _ => False) role w role w := Step.of_below h.hi (Below.refl _ _)
  by_cases hz : ∃ a, v = .slice (some a) 0 0
  · obtain ⟨w2, h1, h2, h3⟩ := h.put hB (hs0.mono fun _ h => h.elim) hl hn hk.1 (fun hne => absurd hz (fun ⟨a, ha⟩ => hne a ha))
    exact ⟨w2, _, h1, h2.mono (by rintro r (e | e | e) <;> rw [e] <;> simp), h3⟩
  · have hne : ∀ a, v ≠ .slice (some a) 0 0 := fun a ha => hz ⟨a, ha⟩
    cases hg : v.ownBlock with
    | none =>
      obtain ⟨w2, h1, h2, h3⟩ := h.put hB (hs0.mono fun _ h => h.elim) hl hn hk.1 (fun _ g hg' => by rw [hg] at hg'; cases hg')
      exact ⟨w2, _, h1, h2.mono (by rintro r (e | e | e) <;> rw [e] <;> simp), h3⟩
    | some g =>
      obtain ⟨k1, k2, k3⟩ := hk.2 hne g hg
      have h' := h.rerole (R := .wlist l) (.inl k1) k2 k3
      have hs1 : Step (fun r => r = .kept) role w (fun b => if b = g then .wlist l else role b) w := (hs0.mono (T2 := fun r => r = .kept) fun _ h => h.elim).rerole k1 rfl
      have hs2 : Step (fun r => r = .wlist l ∨ r = .kept) (fun b => if b = g then .wlist l else role b) w (fun b => if b = g then .wlist l else role b) w := (Step.of_below h'.hi (Below.refl _ _)).mono fun _ h => h.elim
      obtain ⟨w2, h1, h2, h3⟩ := h'.put hB hs2 hl hn hk.1 (fun _ g' hg' => by
        rw [hg] at hg'
        cases hg'
        exact if_pos rfl)
      exact ⟨w2, _, h1, (hs1.trans h2).mono (by rintro r (e | e | e | e) <;> rw [e] <;> simp), h3⟩
/-- 'append(kept, list[i+1:]...)'. -/
theorem KeptAt.rest {w : World} {role : Nat → Role} {v : Value} {xs : List Nat} (h : KeptAt w B role v xs) (hx : xs ≠ []) (hi : Inn role w) (hB : B ≤ w.heap.size) (hz : xs.length ≤ 4398046511104) {ad : Addr} {N c : Nat} {ys : List Nat} (hN : N = ys.length) (hy : N ≤ 4398046511104) (hnews : ∀ j u, (natsI ys)[j]? = some u → w.cell? (ad.add j) = some u) :
    ∃ v' w' role', (Builtin.append_ #[24, 24] 24 #[v, .slice (some ad) N c]).run Try.prog w = .ok v' w' ∧ Step (fun r => r = .kept) role w role' w' ∧ KeptAt w' B role' v' (xs ++ ys) := by
  obtain ⟨i3, hi3, hz30, hz31, hz32⟩ := info_parts info3
  have hs0 : Step (fun r => r = .kept) role w role w := (Step.of_below hi (Below.refl _ _)).mono fun _ h => h.elim
  by_cases h0 : N = 0
  · subst h0
    have hys : ys = [] := List.eq_nil_of_length_eq_zero hN.symm
    subst hys
    have hform : ∃ b cp, v = .slice b xs.length cp ∧ xs.length ≤ cp := by
      rcases h.1 with h1 | ⟨a, _, h1⟩
      · rw [natsI_len] at h1
        rcases ownsRow_form h1 with ⟨e, e0⟩ | ⟨g, cap, e, h2, _⟩
        · exact ⟨none, 0, by rw [e, e0], by rw [e0]; exact Nat.le_refl _⟩
        · exact ⟨_, cap, e, h2⟩
      · exact absurd (by unfold natsI at h1; simpa using h1) hx
    obtain ⟨b, cp, hv, hle⟩ := hform
    refine ⟨v, w, role, ?_, hs0, by rw [List.append_nil]; exact h⟩
    subst hv
    exact run_append_nothing w 24 24 24 3 i3 Try.underlying24 hi3 b xs.length cp hle _ (Src.ofSlice w Try.underlying24 ad 0 c [] (by simp) (by simp) (by simp))
  · obtain ⟨g, cap, w', row, hr, h2, h3, h4, h5, h6⟩ := run_append_z h.1 ad N c (natsI ys) (by rw [natsI_len, hN]) hnews (by intro u hu; unfold natsI at hu; obtain ⟨k, _, rfl⟩ := List.mem_map.1 hu; rfl) (by omega) (by rw [natsI_len]; omega) hB
    rw [natsI_len, ← natsI_app] at h2
    rw [natsI_len] at hr
    obtain ⟨h7, h8⟩ := h.more hi hB (Below.refl _ _) (ys := xs ++ ys) (by rw [List.length_append, hN]) h2 h3 h4 h5 h6
    exact ⟨_, w', _, hr, h7, h8⟩
end
end Go.Proofs.Ytkeagjphddcjeaa
