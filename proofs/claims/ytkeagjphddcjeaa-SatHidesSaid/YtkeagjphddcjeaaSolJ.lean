/-
  The solver: made; what leaves it alone; a scope with jumps. Helper text; the conditions are those typed.
-/
import Derived.Test.YtkeagjphddcjeaaSolG
import Derived.Test.YtkeagjphddcjeaaSolH
import Derived.Test.YtkeagjphddcjeaaSolI
import Derived.Test.YtkeagjphddcjeaaMono2
import Derived.ScopeJumps
namespace Go.Proofs.Ytkeagjphddcjeaa
set_option linter.unusedVariables false
set_option linter.unusedSimpArgs false
open Go.RowKit Go.Maps Sat

/-- A scope with one label: what holds at the label bears a number, which every way back lowers. -/
theorem wp_scope_ghost {P : Program} {a : Act} {w : World} {Q : Exit → Act → World → Prop} {c B : Code} (l : Nat) (I : Nat → Act → World → Prop) (hf : findLabel c l = some (.seq .skip B))
    (pass : ∀ k a w, I k a w → B.wp P (Exit.jump l (fun a' w' => ∃ k', k' < k ∧ I k' a' w') Q) a w)
    (first : (∀ k a w, I k a w → B.wp P (Exit.jump l (fun a' w' => ∃ k', I k' a' w') Q) a w) → c.wp P (Exit.jump l (fun a' w' => ∃ k', I k' a' w') Q) a w) : (Code.scope c).wp P Q a w := by
  refine wp_scope_jumps l (fun a w => ∃ k, I k a w) (fun a w => leastOf fun k => I k a w) hf (first fun k a w hi => ?_) fun a w hj => wp_seq (wp_skip ?_)
  · refine Code.wp_mono (fun e a' w' h => ?_) (pass k a w hi)
    cases e with
    | goto l' => exact ⟨h.1, h.2.choose, h.2.choose_spec.2⟩
    | normal => exact h
    | exit id => exact h
    | ret => exact h
    | panic ch => exact h
    | outgrown => exact h
  · refine Code.wp_mono (fun e a' w' h => ?_) (pass _ a w (leastOf_spec hj).1)
    cases e with
    | goto l' =>
      obtain ⟨h1, k', h2, h3⟩ := h
      exact ⟨h1, ⟨k', h3⟩, Nat.lt_of_le_of_lt ((leastOf_spec ⟨k', h3⟩).2 k' h3) h2⟩
    | normal => exact h
    | exit id => exact h
    | ret => exact h
    | panic ch => exact h
    | outgrown => exact h

theorem arr189 (t : Array Value) (h : t.size = 189) : ∃ f : Nat → Value, t = #[f 0, f 1, f 2, f 3, f 4, f 5, f 6, f 7, f 8, f 9, f 10, f 11, f 12, f 13, f 14, f 15, f 16, f 17, f 18, f 19, f 20, f 21, f 22, f 23, f 24, f 25, f 26, f 27, f 28, f 29, f 30, f 31, f 32, f 33, f 34, f 35, f 36, f 37, f 38, f 39, f 40, f 41, f 42, f 43, f 44, f 45, f 46, f 47, f 48, f 49, f 50, f 51, f 52, f 53, f 54, f 55, f 56, f 57, f 58, f 59, f 60, f 61, f 62, f 63, f 64, f 65, f 66, f 67, f 68, f 69, f 70, f 71, f 72, f 73, f 74, f 75, f 76, f 77, f 78, f 79, f 80, f 81, f 82, f 83, f 84, f 85, f 86, f 87, f 88, f 89, f 90, f 91, f 92, f 93, f 94, f 95, f 96, f 97, f 98, f 99, f 100, f 101, f 102, f 103, f 104, f 105, f 106, f 107, f 108, f 109, f 110, f 111, f 112, f 113, f 114, f 115, f 116, f 117, f 118, f 119, f 120, f 121, f 122, f 123, f 124, f 125, f 126, f 127, f 128, f 129, f 130, f 131, f 132, f 133, f 134, f 135, f 136, f 137, f 138, f 139, f 140, f 141, f 142, f 143, f 144, f 145, f 146, f 147, f 148, f 149, f 150, f 151, f 152, f 153, f 154, f 155, f 156, f 157, f 158, f 159, f 160, f 161, f 162, f 163, f 164, f 165, f 166, f 167, f 168, f 169, f 170, f 171, f 172, f 173, f 174, f 175, f 176, f 177, f 178, f 179, f 180, f 181, f 182, f 183, f 184, f 185, f 186, f 187, f 188] := by
  have h1 : t = ((List.range 189).map fun i => t.getD i undef).toArray := by
    apply Array.ext
    · simp [h]
    · intro i h1 h2
      simp [h1]
  exact ⟨fun i => t.getD i undef, h1⟩
theorem mk_ints (n : Nat) (hn : n ≤ 1000) (w : World) : (Instr.makeSlice 24 (.int .i64 (n : Int)) (.int .i64 (n : Int))).run Try.prog w = .ok (.slice (some ⟨w.heap.size, 0, none⟩) n n) (w.alloc (.cells (Array.replicate n (.int .i64 0)) 3)) := by
  obtain ⟨i, hi, h0, h1, h2⟩ := info_parts info3
  have := run_make (P := Try.prog) w 24 3 i (.int .i64 0) Try.underlying24 hi h0 .i64 .i64 (n : Int) (n : Int) (by omega) (Int.le_refl _) (by rw [h2]; omega) (by omega)
  rw [Int.toNat_natCast, h1, Nat.mul_one] at this
  have e : madeCells (Value.int .i64 0).cells n = Array.replicate n (.int .i64 0) := by
    have := toList_madeCells_one (.int .i64 0) n
    have h2 : (madeCells #[.int .i64 0] n).toList = (Array.replicate n (Value.int .i64 0)).toList := by rw [this]; simp
    exact Array.toList_inj.1 h2
  rw [e] at this
  exact this

section
variable {w w' : World} {B : Nat} {role role' : Nat → Role} {S M gv gl gr : Nat} {vc vt vm : Value} {head n : Nat} {cv : Nat → Value} {wo : Int → Option Value} {wl : Int → List Nat} {orig : List Cl} {gs : List Int} {cs : List Cl} {tr : List En} {mk : List Nat} {T : Role → Prop}

/-- What leaves the solver's blocks alone leaves the solver. -/
theorem SolIn.free (h : SolIn w B role S M gv gl gr vc vt vm head n cv wo wl cs tr mk) (hB : B ≤ w.heap.size) (hsz : w.heap.size ≤ w'.heap.size) (hs : ∀ b, role b ≠ .free → w'.heap[b]? = w.heap[b]?) : SolIn w' B role S M gv gl gr vc vt vm head n cv wo wl cs tr mk := by
  obtain ⟨fl, hl1, hl2⟩ := h.levs
  obtain ⟨fr, hr1, hr2⟩ := h.whys
  have blk := fun {b : Nat} {R : Role} (hb : role b = R) (h1 : R ≠ .free) => hs b (by rw [hb]; exact h1)
  exact { h with
    box := h.box.to (blk h.rS (by simp))
    crow := ownsRow_to h.crow fun g hg => blk (h.rc g hg) (by simp)
    clause := fun i c hc => ownsRow_to (h.clause i c hc) fun g hg => blk (h.rC i g (List.getElem?_eq_some_iff.1 hc).1 hg) (by simp)
    watch := h.watch.block (blk h.rM (by simp))
    wlist := fun l => (h.wlist l).to fun hne g hg => by
      cases hw : wo l with
      | none => rw [hw] at hg; cases hg
      | some v =>
        rw [hw] at hg hne
        exact blk (h.rW l g v hw hne hg) (by simp)
    vals := h.vals.to (blk h.rv (by simp))
    levs := ⟨fl, hl1.to (blk h.rl (by simp)), hl2⟩
    whys := ⟨fr, hr1.to (blk h.rr (by simp)), hr2⟩
    trow := ownsRow_to h.trow fun g hg => blk (h.rt g hg) (by simp)
    mrow := ownsRow_to h.mrow fun g hg => blk (h.rm g hg) (by simp)
    hi := fun b hr => Nat.lt_of_lt_of_le (h.hi b hr) hsz }

/-- The solver as it is made. -/
structure Made (W : World) (B S M gv gl gr n : Nat) : Prop where
  box : BoxN W S [.slice none 0 0, .map (some M), .slice (some ⟨gv, 0, none⟩) n n, .slice (some ⟨gl, 0, none⟩) n n, .slice (some ⟨gr, 0, none⟩) n n, .slice none 0 0, .slice none 0 0, .int .i64 0] 54
  map : W.heap[M]? = some (.map #[] 0)
  v : BoxF W gv n (fun _ => .int .i64 0) 3
  l : BoxF W gl n (fun _ => .int .i64 0) 3
  r : BoxF W gr n (fun _ => .int .i64 0) 3
  d1 : gv ≠ gl
  d2 : gv ≠ gr
  d3 : gl ≠ gr
  b1 : B ≤ S
  b2 : B ≤ M
  b3 : B ≤ gv
  b4 : B ≤ gl
  b5 : B ≤ gr
theorem Made.sol {W : World} (h : Made W B S M gv gl gr n) : ∃ role, SolIn W B role S M gv gl gr (.slice none 0 0) (.slice none 0 0) (.slice none 0 0) 0 n (fun _ => .slice none 0 0) (fun _ => none) (fun _ => []) [] [] [] := by
  obtain ⟨cv1, hv, _, _⟩ := h.v
  obtain ⟨cl1, hl, _, _⟩ := h.l
  obtain ⟨cr1, hr, _, _⟩ := h.r
  have hbox : W.heap[S]? = some (.cells _ 54 (0, 0)) := h.box
  have hMS : M ≠ S := fun e => by have := h.map; rw [e, hbox] at this; cases this
  have hMv : M ≠ gv := fun e => by have := h.map; rw [e, hv] at this; cases this
  have hMl : M ≠ gl := fun e => by have := h.map; rw [e, hl] at this; cases this
  have hMr : M ≠ gr := fun e => by have := h.map; rw [e, hr] at this; cases this
  have hSv : S ≠ gv := fun e => by rw [e, hv] at hbox; cases hbox
  have hSl : S ≠ gl := fun e => by rw [e, hl] at hbox; cases hbox
  have hSr : S ≠ gr := fun e => by rw [e, hr] at hbox; cases hbox
  have hMlt : M < W.heap.size := by
    rcases Nat.lt_or_ge M W.heap.size with h1 | h1
    · exact h1
    · have := h.map; rw [Array.getElem?_eq_none h1] at this; cases this
  have hm : MapAt Try.prog 3 (W.alloc (.map #[] 0)) W.heap.size 0 (fun _ => none) := MapAt.made _ _ _
  refine ⟨fun b => if b = S then .box else if b = M then .map else if b = gv then .vals else if b = gl then .levs else if b = gr then .whys else .free, h.box, World.ownsRow_nil _ _ _ _, fun i c h => (by simp at h), ?_, fun l v h => (by cases h), fun l => .inl (World.ownsRow_nil _ _ _ _), h.v, ⟨fun _ => 0, h.l, fun e h => (by cases h)⟩, ⟨fun _ => 0, h.r, fun e h => (by cases h)⟩, World.ownsRow_nil _ _ _ _, World.ownsRow_nil _ _ _ _, ?_, ?_, ?_, ?_, ?_, fun g h => (by cases h), fun i g h => absurd h (Nat.not_lt_zero _), fun l g v h => (by cases h), fun g h => (by cases h), fun g h => (by cases h), fun b hb => ?_, fun b hb => ?_⟩
  · obtain ⟨D, ⟨es, clock, h1, h2⟩, hf⟩ := hm
    rw [alloc_at] at h1
    refine MapAt.mono (n := 0) ⟨D, ⟨es, clock, h.map.trans h1, h2⟩, fun u ul hul => ?_⟩ (Nat.zero_le _)
    have := hf u ul hul
    have e : woF (fun _ => none) u = none := by unfold woF; split <;> rfl
    rw [e]
    exact this
  · simp
  · simp [hMS]
  · simp [Ne.symm hSv, Ne.symm hMv]
  · simp [Ne.symm hSl, Ne.symm hMl, Ne.symm h.d1]
  · simp [Ne.symm hSr, Ne.symm hMr, Ne.symm h.d2, Ne.symm h.d3]
  · split at hb
    · rename_i e; rw [e]; exact h.b1
    · split at hb
      · rename_i e; rw [e]; exact h.b2
      · split at hb
        · rename_i e; rw [e]; exact h.b3
        · split at hb
          · rename_i e; rw [e]; exact h.b4
          · split at hb
            · rename_i e; rw [e]; exact h.b5
            · exact absurd rfl hb
  · split at hb
    · rename_i e; rw [e]; exact h.box.lt
    · split at hb
      · rename_i e; rw [e]; exact hMlt
      · split at hb
        · rename_i e; rw [e]; exact h.v.lt
        · split at hb
          · rename_i e; rw [e]; exact h.l.lt
          · split at hb
            · rename_i e; rw [e]; exact h.r.lt
            · exact absurd rfl hb
/-- A level more begins. -/
theorem SolIn.marked (h : SolIn w B role S M gv gl gr vc vt vm head n cv wo wl cs tr mk) (hB : B ≤ w.heap.size) {w1 w2 : World} (hb : Below w.heap.size w w1) {g cap m : Nat}
    (hown : w2.ownsRow B 3 1 (.slice (some ⟨g, 0, none⟩) (mk.length + 1) cap) (mk.length + 1) (natsI mk ++ [.int .i64 (m : Int)])) (hg : w1.grownBy w2 vm.ownBlock) (hat : vm.ownBlock = some g ∨ g = w1.heap.size) (hlt : g < w2.heap.size) :
    ∃ role', Step (fun r => r = .mrow ∨ r = .box) role w role' (w2.setCell ⟨S, 6, none⟩ (.slice (some ⟨g, 0, none⟩) (mk.length + 1) cap)) ∧
      SolIn (w2.setCell ⟨S, 6, none⟩ (.slice (some ⟨g, 0, none⟩) (mk.length + 1) cap)) B role' S M gv gl gr vc vt (.slice (some ⟨g, 0, none⟩) (mk.length + 1) cap) head n cv wo wl cs tr (mk ++ [m]) := by
  have s1 := Step.of_below h.hi hb
  have s2 := Step.of_rows s1.inn (R := .mrow) (by simp) h.rm hg (hat.imp id (fun e => e.symm)) hlt
  have s3 := Step.of_set s2.inn S 6 (.slice (some ⟨g, 0, none⟩) (mk.length + 1) cap)
  have hSg : S ≠ g := fun e => by
    subst e
    rcases hat with h1 | h1
    · have := h.rm S h1
      rw [h.rS] at this
      cases this
    · have h2 := h.hi S (by rw [h.rS]; simp)
      have := hb.size
      omega
  have rS2 : (fun b => if b = g then Role.mrow else role b) S = .box := by
    show (if S = g then Role.mrow else role S) = .box
    rw [if_neg hSg]
    exact h.rS
  replace s3 := s3.mono (T2 := fun r => r = .box) (fun r e => e.trans rS2)
  have hs := (s1.trans (s2.trans s3)).mono (T2 := fun r => r = .mrow ∨ r = .box) (by rintro r (e | e | e); exact e.elim; exact .inl e; exact .inr e)
  have blk := fun {b : Nat} {R : Role} (hb : role b = R) (h1 : R ≠ .free) (h2 : ¬ (R = .mrow ∨ R = .box)) => h.blk hs hb h1 h2
  obtain ⟨fl, hl1, hl2⟩ := h.levs
  obtain ⟨fr, hr1, hr2⟩ := h.whys
  refine ⟨_, hs, ?_, ownsRow_to h.crow fun b hb => (blk (h.rc b hb) (by simp) (by simp)).1, fun i d hd => ownsRow_to (h.clause i d hd) fun b hb => (blk (h.rC i b (List.getElem?_eq_some_iff.1 hd).1 hb) (by simp) (by simp)).1, h.watch.block (blk h.rM (by simp) (by simp)).1, h.wdom, fun l => ?_, h.vals.to (blk h.rv (by simp) (by simp)).1, ⟨fl, hl1.to (blk h.rl (by simp) (by simp)).1, hl2⟩, ⟨fr, hr1.to (blk h.rr (by simp) (by simp)).1, hr2⟩,
    ownsRow_to h.trow fun b hb => (blk (h.rt b hb) (by simp) (by simp)).1, ?_,
    rS2, (blk h.rM (by simp) (by simp)).2, (blk h.rv (by simp) (by simp)).2, (blk h.rl (by simp) (by simp)).2, (blk h.rr (by simp) (by simp)).2, fun b hb => (blk (h.rc b hb) (by simp) (by simp)).2, fun i b hi hb => (blk (h.rC i b hi hb) (by simp) (by simp)).2, fun l b v hv hne hb => (blk (h.rW l b v hv hne hb) (by simp) (by simp)).2,
    fun b hb => (blk (h.rt b hb) (by simp) (by simp)).2, fun b hb => ?_, hs.lo (h := h.lo) hB, hs.inn⟩
  · have hb1 := h.box.below hb
    have hb2 := hb1.to (hg.block S hb1.lt (fun e => by have := h.rm S e.symm; rw [h.rS] at this; cases this))
    exact hb2.set 6 _
  · refine (h.wlist l).to fun hne b hb => ?_
    cases hw : wo l with
    | none => rw [hw] at hb; cases hb
    | some v =>
      rw [hw] at hb hne
      exact (blk (h.rW l b v hw hne hb) (by simp) (by simp)).1
  · rw [List.length_append, List.length_singleton, natsI_snoc]
    exact ownsRow_to hown fun b hb => by
      cases hb
      exact set_other _ (Ne.symm hSg)
  · cases hb
    exact if_pos rfl
/-- What the operations that make the solver yield. -/
def mkV (B n : Nat) (i : Nat) (v : Value) (W : World) : Prop :=
  match i with
  | 0 => ∃ M, v = .map (some M) ∧ W.heap[M]? = some (.map #[] 0) ∧ B ≤ M
  | 1 | 3 | 5 => v = .int .i64 (n : Int)
  | 2 | 4 | 6 => ∃ g, v = .slice (some ⟨g, 0, none⟩) n n ∧ BoxF W g n (fun _ => .int .i64 0) 3 ∧ B ≤ g
  | 7 => ∃ M gv gl gr, v = .agg #[.slice none 0 0, .map (some M), .slice (some ⟨gv, 0, none⟩) n n, .slice (some ⟨gl, 0, none⟩) n n, .slice (some ⟨gr, 0, none⟩) n n, .slice none 0 0, .slice none 0 0, .int .i64 0] ∧ W.heap[M]? = some (.map #[] 0) ∧ B ≤ M ∧
      (BoxF W gv n (fun _ => .int .i64 0) 3 ∧ B ≤ gv) ∧ (BoxF W gl n (fun _ => .int .i64 0) 3 ∧ B ≤ gl) ∧ (BoxF W gr n (fun _ => .int .i64 0) 3 ∧ B ≤ gr) ∧ gv ≠ gl ∧ gv ≠ gr ∧ gl ≠ gr
  | _ => ∃ S M gv gl gr, v = .pointer (some ⟨S, 0, none⟩) ∧ Made W B S M gv gl gr n
theorem map_lt {W : World} {M : Nat} (h : W.heap[M]? = some (.map #[] 0)) : M < W.heap.size := by
  rcases Nat.lt_or_ge M W.heap.size with h1 | h1
  · exact h1
  · rw [Array.getElem?_eq_none h1] at h; cases h
theorem Made.below {W W' : World} {B S M gv gl gr n : Nat} (h : Made W B S M gv gl gr n) (hb : Below W.heap.size W W') : Made W' B S M gv gl gr n :=
  ⟨h.box.below hb, (hb.block M (map_lt h.map)).trans h.map, h.v.below hb, h.l.below hb, h.r.below hb, h.d1, h.d2, h.d3, h.b1, h.b2, h.b3, h.b4, h.b5⟩
theorem mkV_keep {B n : Nat} (W W' : World) (hb : Below W.heap.size W W') (j : Nat) (u : Value) (h : mkV B n j u W) : mkV B n j u W' := by
  unfold mkV at h ⊢
  split at h
  · obtain ⟨M, h1, h2, h3⟩ := h
    exact ⟨M, h1, (hb.block M (map_lt h2)).trans h2, h3⟩
  · exact h
  · exact h
  · exact h
  · obtain ⟨g, h1, h2, h3⟩ := h
    exact ⟨g, h1, h2.below hb, h3⟩
  · obtain ⟨g, h1, h2, h3⟩ := h
    exact ⟨g, h1, h2.below hb, h3⟩
  · obtain ⟨g, h1, h2, h3⟩ := h
    exact ⟨g, h1, h2.below hb, h3⟩
  · obtain ⟨M, gv, gl, gr, h1, h2, h3, h4, h5, h6, h7⟩ := h
    exact ⟨M, gv, gl, gr, h1, (hb.block M (map_lt h2)).trans h2, h3, ⟨h4.1.below hb, h4.2⟩, ⟨h5.1.below hb, h5.2⟩, ⟨h6.1.below hb, h6.2⟩, h7⟩
  · obtain ⟨S, M, gv, gl, gr, h1, h2⟩ := h
    exact ⟨S, M, gv, gl, gr, h1, h2.below hb⟩
def mkA (i : Nat) : Bool := i == 2 || i == 4 || i == 6
def mkD (u v : Value) : Prop := ∀ g a b c d, u = .slice (some ⟨g, 0, none⟩) a b → v ≠ .slice (some ⟨g, 0, none⟩) c d
theorem mkA_slice {B n j : Nat} {u : Value} {W : World} (hj : mkA j = true) (hu : mkV B n j u W) : ∃ g, u = .slice (some ⟨g, 0, none⟩) n n ∧ g < W.heap.size := by
  have h1 : j = 2 ∨ j = 4 ∨ j = 6 := by
    unfold mkA at hj
    simp only [Bool.or_eq_true, beq_iff_eq] at hj
    omega
  rcases h1 with rfl | rfl | rfl
  all_goals
    obtain ⟨g, h2, h3, _⟩ := hu
    exact ⟨g, h2, h3.lt⟩
theorem mkD_new {B n j : Nat} {u : Value} {W : World} (hj : mkA j = true) (hu : mkV B n j u W) : mkD u (.slice (some ⟨W.heap.size, 0, none⟩) n n) ∧ mkD (.slice (some ⟨W.heap.size, 0, none⟩) n n) u := by
  obtain ⟨g, rfl, hlt⟩ := mkA_slice hj hu
  constructor
  · intro g' a b c d h1 h2
    cases h1
    cases h2
    omega
  · intro g' a b c d h1 h2
    cases h1
    cases h2
    omega
end
end Go.Proofs.Ytkeagjphddcjeaa
