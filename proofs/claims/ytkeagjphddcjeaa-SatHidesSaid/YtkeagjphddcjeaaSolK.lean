/-
  Solve: the walk. Helper text; the conditions are those typed.
-/
import Derived.Test.YtkeagjphddcjeaaSolJ
import Derived.IntWalk
namespace Go.Proofs.Ytkeagjphddcjeaa
set_option linter.unusedVariables false
set_option linter.unusedSimpArgs false
open Go.RowKit Go.Maps Sat

/-- At level 0 all variables have a value: no guess is ever made. -/
def NoGuess (n : Nat) (ls : List Cl) (pr : List Int) : Prop := ∀ cs tr sg, Tr n ls (gsOf n pr) cs tr [] → Cs n ls cs → Wat cs tr tr.length → Cov ls cs sg → Sgl sg tr → Full n tr
/-- How many clauses there can be. -/
def Count (n : Nat) (ls : List Cl) (pr : List Int) (cs : List Cl) (tr : List En) (mk : List Nat) : Prop := (ls.length + 2 ^ n ≤ 4398046511104 ∧ cs.length ≤ ls.length + trV n tr mk) ∨ (NoGuess n ls pr ∧ mk = [] ∧ cs.length ≤ ls.length ∧ ls.length ≤ 4398046511104)
theorem Count.le {n : Nat} {ls : List Cl} {pr : List Int} {cs : List Cl} {tr : List En} {mk : List Nat} (h : Count n ls pr cs tr mk) : cs.length ≤ 4398046511104 := by
  rcases h with ⟨h1, h2⟩ | ⟨_, _, h1, h2⟩
  · have := trV_lt n tr mk
    omega
  · omega
def RowF (wr : World) (B : Nat) (role : Nat → Role) (v : Value) (zs : List Int) : Prop := wr.ownsRow B 3 1 v zs.length (intsI zs) ∧ ∀ g, v.ownBlock = some g → role g = .free
theorem RowF.moved {w w' : World} {B : Nat} {role role' : Nat → Role} {v : Value} {zs : List Int} (h : RowF w B role v zs) (hm : Moved role w role' w') : RowF w' B role' v zs := by
  have hk : ∀ g, v.ownBlock = some g → w'.heap[g]? = w.heap[g]? ∧ role' g = .free := fun g hg => hm.block (h.1.lt g hg).2 (h.2 g hg)
  exact ⟨ownsRow_to h.1 fun g hg => (hk g hg).1, fun g hg => (hk g hg).2⟩
theorem RowF.below {w w' : World} {B : Nat} {role : Nat → Role} {v : Value} {zs : List Int} (h : RowF w B role v zs) (hb : Below w.heap.size w w') : RowF w' B role v zs := ⟨ownsRow_below h.1 hb, h.2⟩

/-- The solver when it is filled: what holds at 'more'. -/
def SInv (w : World) (n : Nat) (ls : List Cl) (pr : List Int) (S M gv gl gr : Nat) (vg : Value) (next k : Nat) (wr : World) : Prop :=
  ∃ role vc vt vm head cv wo wl cs tr mk sg, SolIn wr w.heap.size role S M gv gl gr vc vt vm head n cv wo wl cs tr mk ∧ Tr n ls (gsOf n pr) cs tr mk ∧ Cs n ls cs ∧ Wat cs tr head ∧ (∀ m ∈ mk, m ≤ head) ∧ head ≤ tr.length ∧ Wl cs wl ∧ Below w.heap.size w wr ∧ Cov ls cs sg ∧ Sgl sg tr ∧ Count n ls pr cs tr mk ∧ Gone (gsOf n pr) tr next ∧ RowF wr w.heap.size role vg (gsOf n pr) ∧
    (2 ^ n - trV n tr mk) * (n + 2) + (n + 1 - tr.length) ≤ k
/-- The frame at 'more'. -/
def FInv (w : World) (n : Nat) (ls : List Cl) (pr : List Int) (k : Nat) (x : Act) (wr : World) : Prop :=
  x.defers = [] ∧ x.tmps.size = 189 ∧ x.tmps[0]? = some (.int .i64 (n : Int)) ∧ ∃ (S M gv gl gr : Nat) (ga : Option Addr) (gn gc next : Nat), x.tmps[10]? = some (.pointer (some ⟨S, 0, none⟩)) ∧ x.tmps[11]? = some (.slice ga gn gc) ∧ x.tmps[20]? = some (.int .i64 (next : Int)) ∧ gn = (gsOf n pr).length ∧ next ≤ gn ∧ Hid (SInv w n ls pr S M gv gl gr (.slice ga gn gc) next k wr)
def SolvePost (w : World) (n : Nat) (ls : List Cl) (pr : List Int) (e : Ending) (w' : World) : Prop :=
  Below w.heap.size w w' ∧ ((∃ (g : Nat) (v : Asg), e = .returned (.tuple #[.slice (some ⟨g, 0, none⟩) n n, .bool true, .int .i64 0]) ∧ w.heap.size ≤ g ∧ BoxF w' g n (fun u => .bool (v u)) 4 ∧ Best n ls pr v) ∨ (e = .returned (.tuple #[.slice none 0 0, .bool false, .int .i64 0]) ∧ ∀ v, ¬ sat v ls))

/-- While the clauses are read. -/
def F2 (w : World) (n : Nat) (ls : List Cl) (pr : List Int) (S M gv gl gr : Nat) (vg : Value) (i : Nat) (vs : Value) (wr : World) : Prop :=
  ∃ role vc cv wo wl cs sg, SolIn wr w.heap.size role S M gv gl gr vc (.slice none 0 0) (.slice none 0 0) 0 n cv wo wl cs [] [] ∧ Cs n ls cs ∧ Wl cs wl ∧ Below w.heap.size w wr ∧ Cov (ls.take i) cs sg ∧ (∀ x ∈ sg, Lok n x ∧ Ent ls [x]) ∧ cs.length ≤ i ∧ sg.length ≤ i ∧ RowF wr w.heap.size role vg (gsOf n pr) ∧ RowF wr w.heap.size role vs sg ∧ ∀ g, vg.ownBlock = some g → vs.ownBlock ≠ some g
/-- While the single literals are laid. -/
def F3 (w : World) (n : Nat) (ls : List Cl) (pr : List Int) (S M gv gl gr : Nat) (vg vs : Value) (sg : List Int) (i : Nat) (wr : World) : Prop :=
  ∃ role vc vt cv wo wl cs tr, SolIn wr w.heap.size role S M gv gl gr vc vt (.slice none 0 0) 0 n cv wo wl cs tr [] ∧ Tr n ls (gsOf n pr) cs tr [] ∧ Cs n ls cs ∧ Wl cs wl ∧ Below w.heap.size w wr ∧ Cov ls cs sg ∧ Sgl (sg.take i) tr ∧ (∀ x ∈ sg, Lok n x ∧ Ent ls [x]) ∧ cs.length ≤ ls.length ∧ RowF wr w.heap.size role vg (gsOf n pr) ∧ RowF wr w.heap.size role vs sg
theorem gsOf_succ (i : Nat) (pr : List Int) : gsOf (i + 1) pr = gsOf i pr ++ [-(i : Int) - 1] := by
  unfold gsOf
  rw [List.range_succ, List.map_append, ← List.append_assoc]
  rfl
theorem gsOf_len (i : Nat) (pr : List Int) : (gsOf i pr).length = pr.length + i := by
  unfold gsOf
  simp
theorem SolIn.out_free {w : World} {B : Nat} {role : Nat → Role} {S M gv gl gr : Nat} {vc vt vm : Value} {head n : Nat} {cv : Nat → Value} {wo : Int → Option Value} {wl : Int → List Nat} {cs : List Cl} {tr : List En} {mk : List Nat} (h : SolIn w B role S M gv gl gr vc vt vm head n cv wo wl cs tr mk) {b : Nat} (hb : w.heap.size ≤ b) : role b = .free := h.hi.free hb
section
variable {w w' : World} {B : Nat} {role role' : Nat → Role} {S M gv gl gr : Nat} {vc vt vm : Value} {head n : Nat} {cv : Nat → Value} {wo : Int → Option Value} {wl : Int → List Nat} {cs : List Cl} {tr : List En} {mk : List Nat}
/-- A row that is none of the solver's grows. -/
theorem SolIn.free_app (h : SolIn w B role S M gv gl gr vc vt vm head n cv wo wl cs tr mk) (hB : B ≤ w.heap.size) {vs vg : Value} {sg G : List Int} (hs : RowF w B role vs sg) (hg : RowF w B role vg G) (hne : ∀ g, vg.ownBlock = some g → vs.ownBlock ≠ some g) {w1 w2 : World} (hb : Below w.heap.size w w1) {x : Int} {g cap N : Nat} (hN : N = sg.length + 1)
    (hown : w2.ownsRow B 3 1 (.slice (some ⟨g, 0, none⟩) N cap) N (intsI sg ++ [.int .i64 x])) (hgrow : w1.grownBy w2 vs.ownBlock) (hat : vs.ownBlock = some g ∨ g = w1.heap.size) :
    SolIn w2 B role S M gv gl gr vc vt vm head n cv wo wl cs tr mk ∧ RowF w2 B role (.slice (some ⟨g, 0, none⟩) N cap) (sg ++ [x]) ∧ RowF w2 B role vg G ∧ (∀ g', vg.ownBlock = some g' → (Value.slice (some ⟨g, 0, none⟩) N cap).ownBlock ≠ some g') ∧ Below B w w2 := by
  have hblk : ∀ b, b < w.heap.size → some b ≠ vs.ownBlock → w2.heap[b]? = w.heap[b]? := fun b hb' hn => by rw [hgrow.block b (Nat.lt_of_lt_of_le hb' hb.size) hn, hb.block b hb']
  have hgf : role g = .free := by
    rcases hat with h1 | h1
    · exact hs.2 g h1
    · exact h.out_free (by rw [h1]; exact hb.size)
  refine ⟨h.free hB (Nat.le_trans hb.size hgrow.size) fun b hr => hblk b (h.hi b hr) fun e => hr (hs.2 b e.symm), ⟨?_, fun g' hg' => by cases hg'; exact hgf⟩, ⟨ownsRow_to hg.1 fun b hb' => hblk b (hg.1.lt b hb').2 (fun e => hne b hb' e.symm), hg.2⟩, fun g' hg' e => ?_, ?_⟩
  · rw [List.length_append, List.length_singleton, intsI_snoc, ← hN]
    exact hown
  · injection e with e
    subst e
    rcases hat with h1 | h1
    · exact hne g hg' h1
    · have h2 := (hg.1.lt g hg').2
      have h3 := hb.size
      omega
  · have hb0 := below_to hb hB
    exact ⟨hgrow.os.trans hb.os, hgrow.tape.trans hb.tape, hgrow.output.trans hb.output, Nat.le_trans hb.size hgrow.size, fun b hb' => hblk b (by omega) fun e => by
      have := (hs.1.lt b e.symm).1
      omega⟩
/-- A clause more. -/
theorem SolIn.adding (h : SolIn w B role S M gv gl gr vc vt vm head n cv wo wl cs tr mk) {w4 : World} (hb : Below w.heap.size w w4) (hB : B ≤ w.heap.size) {vn : Value} {k : Nat} {xs : List Value} (ho : w4.ownsRow w.heap.size 3 1 vn k xs) (hk : 0 < k) :
    ∃ role1, SolIn w4 B role1 S M gv gl gr vc vt vm head n cv wo wl cs tr mk ∧ (∀ b, vn.ownBlock = some b → role1 b = .clause cs.length) ∧ ∀ (v : Value) (zs : List Int), RowF w B role v zs → RowF w4 B role1 v zs := by
  obtain ⟨g, cap, hv, _⟩ := (ownsRow_form ho).resolve_left (fun h => by have := h.2; omega)
  have hlt := ho.lt g (by rw [hv]; rfl)
  have h4 := h.below hB hb
  refine ⟨fun b => if b = g then .clause cs.length else role b, h4.rerole (R := .clause cs.length) (.inr (h.out_free hlt.1)) hlt.2 (Nat.le_trans hB hlt.1), fun b hb' => ?_, fun v zs hr => ⟨ownsRow_below hr.1 hb, fun b hb' => ?_⟩⟩
  · rw [hv] at hb'
    cases hb'
    exact if_pos rfl
  · have h5 := hr.1.lt b hb'
    show (if b = g then _ else role b) = .free
    rw [if_neg (by omega)]
    exact hr.2 b hb'
end
theorem val_asg {n : Nat} {orig : List Cl} {gs : List Int} {cs : List Cl} {tr : List En} {mk : List Nat} (h : Tr n orig gs cs tr mk) (hf : Full n tr) {u : Nat} (hu : u < n) : asgOf tr u = decide (0 < valOf tr u) := by
  obtain ⟨q, e, he, hv⟩ := hf u hu
  have h1 := asg_true h ⟨e, he, rfl⟩
  have h2 := valOf_at h he
  have h3 := (h.ok e (List.mem_of_getElem? he)).1
  subst hv
  rw [h2]
  unfold litB at h1
  by_cases h4 : e.lit < 0
  · rw [if_pos h4] at h1 ⊢
    simpa using h1
  · rw [if_neg h4] at h1 ⊢
    rw [h1]
    rfl
theorem meas_back {n X0 X2 l0 l2 : Nat} (h : X2 + 1 ≤ X0) : X2 * (n + 2) + (n + 1 - l2) < X0 * (n + 2) + (n + 1 - l0) := by
  have h1 := Nat.mul_le_mul_right (n + 2) h
  rw [Nat.add_mul, Nat.one_mul] at h1
  omega
theorem clause_len_of {n : Nat} {c : Cl} (h : (c.map vr).Nodup) (hl : ∀ x ∈ c, Lok n x) : c.length ≤ n := by
  have h1 := List.Nodup.length_le_of_subset h (l₂ := List.range n) fun x hx => by
    obtain ⟨y, hy, rfl⟩ := List.mem_map.1 hx
    exact List.mem_range.2 (hl y hy).lt
  simpa using h1
theorem nodup_of_vr {c : Cl} (h : (c.map vr).Nodup) : c.Nodup := by
  rw [List.nodup_iff_pairwise_ne, List.pairwise_map] at h
  rw [List.nodup_iff_pairwise_ne]
  exact h.imp fun h e => h (by rw [e])
theorem meas_on {n X0 X2 l0 l2 : Nat} (h : X2 ≤ X0) (hl : l0 < l2) (hn : l2 ≤ n) : X2 * (n + 2) + (n + 1 - l2) < X0 * (n + 2) + (n + 1 - l0) := by
  have h1 := Nat.mul_le_mul_right (n + 2) h
  omega
/-- A clause that says what it says. -/
theorem taut_iff {n : Nat} (hn : n ≤ 400) {c : List Int} (hl : ∀ x ∈ c, Lok n x) : (norm c).any (bothB (norm c)) = true ↔ Taut (norm c) := by
  have hok : ∀ x ∈ norm c, Lok n x := fun x hx => hl x (mem_norm.1 hx)
  have hw : ∀ x, Lok n x → wrap64 (-x) = -x := fun x hx => by
    have := hx.2
    exact IntWalk.wrap64_in _ (by omega)
  rw [List.any_eq_true]
  constructor
  · rintro ⟨x, hx, h⟩
    unfold bothB at h
    simp only [Bool.and_eq_true, decide_eq_true_eq, List.contains_iff_mem] at h
    rw [hw x (hok x hx)] at h
    exact ⟨x, hx, h.2⟩
  · rintro ⟨x, hx, h⟩
    by_cases h0 : x < 0
    · refine ⟨x, hx, ?_⟩
      unfold bothB
      simp only [Bool.and_eq_true, decide_eq_true_eq, List.contains_iff_mem]
      rw [hw x (hok x hx)]
      exact ⟨h0, h⟩
    · refine ⟨-x, h, ?_⟩
      unfold bothB
      simp only [Bool.and_eq_true, decide_eq_true_eq, List.contains_iff_mem]
      rw [hw (-x) (hok x hx).neg, Int.neg_neg]
      have := (hok x hx).1
      exact ⟨by omega, hx⟩

set_option maxHeartbeats 8000000 in
set_option maxRecDepth 100000 in
theorem solve_c {n : Nat} (hn : n ≤ 400) {vl vp : Value} {ls : List (List Int)} {pr : List Int} {w : World} (hl : RowsV w vl ls) (hp : IntsV w vp pr) (hlen : ls.length ≤ 2199023255552) (hlb : ∀ c ∈ ls, c.length ≤ 17592186044416) (hpb : pr.length ≤ 17592186043904) (hok : litsB n ls pr = true)
    (hcap : ls.length + 2 ^ n ≤ 4398046511104 ∨ NoGuess n ls pr) :
    Calls Try.prog 14 #[.int .i64 (n : Int), vl, vp] w (SolvePost w n ls pr) := by
  obtain ⟨Q, hQ⟩ : ∃ Q, SolvePost w n ls pr = Q := ⟨_, rfl⟩
  rw [hQ]
  replace hQ := Lib.hid hQ
  have hchk := check_c hn hl hp (by omega) (fun c hc => by have := hlb c hc; omega) (by omega)
  have HCHK : Hid (Calls Try.prog 27 #[.int .i64 (n : Int), vl, vp] w fun e w' => e = .returned (.int .i64 0) ∧ Below w.heap.size w w') := hchk.mono fun e w' h => by
    unfold CheckPost at h
    rw [if_pos hok] at h
    exact h
  have hok' := litsB_ok.1 hok
  have HOK := Lib.hid hok'
  have HP := Lib.hid hp
  have HLEN := Lib.hid hlen
  have HLB := Lib.hid hlb
  have HPB := Lib.hid hpb
  have HCAP := Lib.hid hcap
  have hmm := @run_makeMap Try.prog
  have hmk := fun w => mk_ints n (by omega) w
  obtain ⟨al, cl, f, hvl, hcl, hcell, hrows⟩ := hl
  subst hvl
  have HROWS := Lib.hid hrows
  obtain ⟨L, hLL⟩ : ∃ L, ls.length = L := ⟨_, rfl⟩
  have HCELL : Hid (∀ i, i < L → ∃ b off, al = some ⟨b, off, none⟩ ∧ b < w.heap.size ∧ w.cell? ⟨b, off + i, none⟩ = some (f i)) := fun i hi => by
    rcases hcell with h | ⟨b, off, h1, h2, h3⟩
    · rw [← hLL, h] at hi; cases hi
    · exact ⟨b, off, h1, h2, h3 i (by rw [hLL]; exact hi)⟩
  rw [hLL] at hcl HCHK ⊢
  have hLb : L ≤ 2199023255552 := by omega
  have HLL := Lib.hid hLL
  clear hrows hcell hLL
  obtain ⟨B, hB⟩ : ∃ B, w.heap.size = B := ⟨_, rfl⟩
  have HBE := Lib.hid hB
  clear hp hlen hlb hpb hok hcap hchk hok' hB
  go_enter Try.func14, Try.ntmps14
  go_wp2_with fail
  refine wp_scope_ghost 0 (FInv w n ls pr) rfl ?_ ?_
  · intro k x wr hx
    obtain ⟨hdef, hsz, h0, S, M, gv, gl, gr, ga, gn, gc, next, h10, h11, h20, hgn, hnx, HI⟩ := hx
    obtain ⟨t, d⟩ := x
    simp only at hdef hsz h0 h10 h11 h20
    subst hdef
    obtain ⟨t', rfl⟩ := arr189 t hsz
    have e0 : t' 0 = .int .i64 (n : Int) := by simpa using h0
    have e10 : t' 10 = .pointer (some ⟨S, 0, none⟩) := by simpa using h10
    have e11 : t' 11 = .slice ga gn gc := by simpa using h11
    have e20 : t' 20 = .int .i64 (next : Int) := by simpa using h20
    rw [e0, e10, e11, e20]
    obtain ⟨role, vc, vt, vm, head, cv, wo, wl, cs, tr, mk, sg, hsol, htr, hcs, hwat, hmks, hhd, hwl, hbw, hcov, hsgl, hcnt, hgone, hrg, hmeas⟩ := HI.out
    have HPROP := Lib.hid (prop_c hsol hbw.size (by omega) htr hcs hwat hmks hhd hwl hcnt.le)
    have HCOV := Lib.hid hcov
    have HSGL := Lib.hid hsgl
    have HCNT := Lib.hid hcnt
    have HGONE := Lib.hid hgone
    have HRG := Lib.hid hrg
    have HMEAS := Lib.hid hmeas
    have HBW0 := Lib.hid hbw
    have HLO := Lib.hid hsol.lo
    have HGN := Lib.hid hgn
    clear HI hsol htr hcs hwat hmks hhd hwl hbw hcov hsgl hcnt hgone hrg hmeas h0 h10 h11 h20 e0 e10 e11 e20 hsz hgn
    go_wp2_with fail
    refine HPROP.out.mono ?_
    intro e w1 hpost
    obtain ⟨r, hd1, cs1, tr1, rfl, ⟨role1, vt1, wo1, wl1, hmv1, hsol1, htr1, hcs1, hwl1, hfar1⟩, kk, hwat1, hmk1, hkl1, hres⟩ := hpost
    have HFREE0 : Hid (∀ b, b < w.heap.size → role b = .free) := fun b hb => by
      by_cases h : role b = .free
      · exact h
      · have := HLO.out b h
        omega
    obtain ⟨hb1, hfree1⟩ := hmv1.out HBW0.out HBW0.out.size HFREE0.out
    have HB1 : Hid (Below w.heap.size w w1 ∧ ∀ b, b < w.heap.size → role1 b = .free) := ⟨hb1, hfree1⟩
    have HRG1 := Lib.hid (HRG.out.moved hmv1)
    have HSOL1 := Lib.hid hsol1
    have HTR1 := Lib.hid htr1
    have HCS1 := Lib.hid hcs1
    have HWL1 := Lib.hid hwl1
    have HFAR := Lib.hid hfar1
    have HWAT1 := Lib.hid hwat1
    have HMK1 := Lib.hid hmk1
    have HKL1 := Lib.hid hkl1
    have HCOV1 := Lib.hid (HCOV.out.far hfar1.cov)
    have HSGL1 := Lib.hid (HSGL.out.pre hfar1.pre)
    have htl1 := tr_len htr1
    have hml1 := mk_len htr1
    clear hmv1 hsol1 htr1 hcs1 hwl1 hfar1 hwat1 hmk1 hkl1 hb1 hfree1 HPROP HRG HCOV HSGL
    rcases hres with ⟨hr, hkE, hhE⟩ | ⟨bad, c, hr, hcb, hfalse, x0, hx0, hat0⟩
    · subst hr
      have HHE := Lib.hid hhE
      have HKE := Lib.hid hkE
      clear hkE hhE
      have hgl : (gsOf n pr).length = gn := HGN.out.symm
      have hgrow : w1.ownsRow w.heap.size 3 1 (.slice ga gn gc) gn (intsI (gsOf n pr)) := by
        have h1 := HRG1.out.1
        rw [hgl] at h1
        exact h1
      have HGROW := Lib.hid hgrow
      have hgnb : gn ≤ 17592186044304 := by
        have h1 := gsOf_len n pr
        have h2 : pr.length ≤ 17592186043904 := HPB.out
        omega
      have HG0 : Hid (Gone (gsOf n pr) tr1 next) := HGONE.out.pre HFAR.out.pre
      have HGL := Lib.hid hgl
      clear hgl hgrow
      go_wp2_with fail
      go_loopg [20] (gn + 1) (fun gf v20 wx => ∃ (i q : Nat), v20 = .int .i64 (i : Int) ∧ i ≤ gn ∧ gn + 1 ≤ i + gf ∧ wx = w1.drewN q ∧ Hid (Gone (gsOf n pr) tr1 i))
      case atStart => exact ⟨next, 0, rfl, hnx, by omega, rfl, HG0.out⟩
      case round =>
        obtain ⟨gI, rfl⟩ : ∃ x : Nat, x = gk := ⟨_, rfl⟩
        obtain ⟨i, q, rfl, hin, hfi, hwr, HGI⟩ := hrel
        have hb : Below w1.heap.size w1 wr := by rw [hwr]; exact below_dr (Below.refl _ _) q
        have HWR := Lib.hid hwr
        have HSW := Lib.hid (HSOL1.out.below HB1.out.1.size hb)
        have HBW := Lib.hid hb
        have HBT : Hid (Below w.heap.size w wr ∧ w.heap.size ≤ wr.heap.size) := ⟨HB1.out.1.trans (below_to hb HB1.out.1.size), Nat.le_trans HB1.out.1.size hb.size⟩
        have HRGW := Lib.hid (HRG1.out.below hb)
        clear hwr
        by_cases hi : i < gn
        · have hi1 : (i : Int) < (gn : Int) := by omega
          have hil : i < (gsOf n pr).length := by rw [HGL.out]; exact hi
          obtain ⟨g, hg⟩ : ∃ g, (gsOf n pr)[i] = g := ⟨_, rfl⟩
          have hgm : g ∈ gsOf n pr := by rw [← hg]; exact List.getElem_mem hil
          have HGE : Hid ((gsOf n pr)[i]? = some g) := by rw [← hg]; exact List.getElem?_eq_getElem hil
          have hlg : Lok n g := gsOf_ok HOK.out.2 g hgm
          have HLG := Lib.hid hlg
          obtain ⟨gga, ggc, hge, hggc, _⟩ := (ownsRow_form HGROW.out).resolve_left (fun h => by have := h.2; omega)
          obtain ⟨hga, hgc⟩ : ga = some ⟨gga, 0, none⟩ ∧ gc = ggc := by injection hge with a1 _ a3; exact ⟨a1, a3⟩
          have c0 : w1.cell? ⟨gga, i, none⟩ = some (.int .i64 g) := by
            have h1 := HGROW.out
            rw [hga] at h1
            exact ownsRow_cell h1 (by unfold intsI; rw [List.getElem?_map, HGE.out]; rfl)
          have c0 : wr.cell? ⟨gga, i, none⟩ = some (.int .i64 g) := cell_tr hb c0
          have HIS := Lib.hid (is_c HSW.out hlg (by omega))
          have hcase := isV_cases HTR1.out hlg
          subst hga
          clear hg hgm hlg hge hil hgc hb
          by_cases hop : isV tr1 g = 0
          · have HOP : Hid (Sat.Open tr1 g) := by
              rcases hcase with ⟨h1, _⟩ | ⟨h1, _⟩ | ⟨_, h1⟩
              · rw [hop] at h1; cases h1
              · rw [hop] at h1; cases h1
              · exact h1
            rw [hop] at HIS
            have HGS := Lib.hid (HTR1.out.guess HGE.out HLG.out HOP.out HGI.out)
            have htn := tr_len HGS.out
            rw [List.length_append, List.length_singleton] at htn
            clear hop hcase
            go_upto_region 46 with (go_at_call 31; refine HIS.out.mono ?_; rintro e w2 ⟨rfl, q2, rfl⟩)
            obtain ⟨w2, hw2⟩ : ∃ w2, wr.drewN q2 = w2 := ⟨_, rfl⟩
            have hb2 : Below wr.heap.size wr w2 := by rw [← hw2]; exact below_dr (Below.refl _ _) q2
            have HS2 := Lib.hid (HSW.out.below HBT.out.2 hb2)
            have HB2 : Hid (Below w.heap.size w w2 ∧ w.heap.size ≤ w2.heap.size) := ⟨HBT.out.1.trans (below_to hb2 HBT.out.2), Nat.le_trans HBT.out.2 hb2.size⟩
            have HRG2 := Lib.hid (HRGW.out.below hb2)
            rw [hw2]
            clear hw2 hb2 c0 HIS
            obtain ⟨ta, tc, hvt⟩ := ownsRow_slice HS2.out.trow
            obtain ⟨ma, mc, hvm⟩ := ownsRow_slice HS2.out.mrow
            obtain ⟨N, hN⟩ : ∃ N, tr1.length = N := ⟨_, rfl⟩
            obtain ⟨Lm, hLm⟩ : ∃ Lm, mk.length = Lm := ⟨_, rfl⟩
            have HCS : Hid (∀ W : World, W.heap[S]? = w2.heap[S]? → W.cell? ⟨S, 5, none⟩ = some (.slice ta N tc) ∧ W.cell? ⟨S, 6, none⟩ = some (.slice ma Lm mc)) := fun W hW => by
              have hb := HS2.out.box.to hW
              rw [hvt, hvm, hN, hLm] at hb
              exact ⟨hb.cell (j := 5) rfl, hb.cell (j := 6) rfl⟩
            have HMROW : Hid (w2.ownsRow w.heap.size 3 1 (.slice ma Lm mc) Lm (natsI mk)) := by
              have h1 := HS2.out.mrow
              rw [hvm, hLm] at h1
              exact h1
            have hmkn : Lm ≤ 1000 := by omega
            have HN := Lib.hid hN
            have HLM := Lib.hid hLm
            have HVM := Lib.hid hvm
            clear hN hLm hvt hvm
            obtain ⟨i3, hi3, hz30, hz31, hz32⟩ := info_parts info3
            refine wp_region_ord (fun W => W.heap[S]? = w2.heap[S]?) 14
              [(true, 0), (true, 1), (true, 2), (true, 3), (true, 4), (true, 5), (true, 6), (true, 7), (true, 8), (true, 9), (false, 10), (false, 11), (false, 12), (true, 13), (false, 14)] (by kernel_rfl) (by kernel_rfl) (fun _ _ d _ _ h => by cases d <;> exact h) rfl ?_
            intro wd hwd hS
            simp only [ordOps, List.map_cons, List.map_nil, Array.getD_eq_getD_getElem?, List.getElem?_toArray, List.getElem?_cons_succ, List.getElem?_cons_zero, Option.getD_some]
            iterate 10 (refine wpOrd_q rfl _ (fun w' hS' K hK => (by have q1 := (HCS.out w' hS').1; have q2 := (HCS.out w' hS').2; clear hS'; go_simp; exact hK)) (fun K hK => ?_); go_simp; refine hK _ ?_; clear hK K)
            obtain ⟨wa, hwa⟩ : ∃ wa, wd.alloc (.cells #[.int .i64 (N : Int)] 3) = wa := ⟨_, rfl⟩
            have hdB : Below w2.heap.size w2 wd := by rw [hwd.out]; exact below_dr1 (Below.refl _ _)
            have HWA : Hid (Below w2.heap.size w2 wa ∧ BoxN wa wd.heap.size [.int .i64 (N : Int)] 3) := by
              rw [← hwa]
              exact ⟨hdB.trans (below_to (below1 wd _) hdB.size), boxN_alloc _ _ _⟩
            refine wpOrd_l rfl (fun K hK => ?_)
            go_simp
            refine hK _ _ ⟨fun _ => HWA.out.1.block S HS2.out.box.lt, ?_⟩
            clear hK K
            refine wpOrd_l rfl (fun K hK => ?_)
            refine wp_append_lies (P := Try.prog) _ (.tmp 154) (.tmp 160) 24 rfl w.heap.size 3 i3 (.int .i64 0) 1 8 Try.underlying24 hi3 hz30 hz31 hz32 rfl (by decide) (.slice ma Lm mc) Lm (natsI mk) rfl (ownsRow_below HMROW.out HWA.out.1) ⟨wd.heap.size, 0, none⟩ 1 1 [.int .i64 (N : Int)] rfl rfl (World.news_of_block (cs := #[.int .i64 (N : Int)]) (t := 3) (fr := (0, 0)) HWA.out.2) (by simp [Value.oneCell']) (by omega) (by unfold maxLen; omega) (by omega) (Nat.le_trans HB2.out.2 HWA.out.1.size) wa.heap.size rfl ?_
            intro g9 cap9 w9 hown9 hgrow9 hat9 hlt9
            have hS9 : w9.heap[S]? = w2.heap[S]? := (hgrow9.block S (Nat.lt_of_lt_of_le HS2.out.box.lt HWA.out.1.size) (fun e => by
              have h1 := HS2.out.rm S (by rw [HVM.out, show mk.length = Lm from HLM.out]; exact e.symm)
              rw [HS2.out.rS] at h1
              cases h1)).trans (HWA.out.1.block S HS2.out.box.lt)
            refine hK _ _ ⟨fun _ => hS9, ?_⟩
            clear hK K
            refine wpOrd_l rfl (fun K hK => ?_)
            go_simp
            refine hK _ _ ⟨fun _ => hS9, ?_⟩
            clear hK K
            refine wpOrd_q rfl _ (fun w' hS' K hK => (by clear hS'; go_simp; exact hK)) (fun K hK => ?_); go_simp; refine hK _ ?_; clear hK K
            have q1 := (HCS.out w9 hS9).2
            have q3 : w9.frozen? ⟨S, 6, none⟩ = false := (HS2.out.box.to hS9).frozen 6
            refine wpOrd_l rfl (fun K hK => ?_)
            go_simp
            refine hK _ _ ⟨fun h => absurd rfl h, ?_⟩
            clear hK K
            refine wpOrd_nil ?_
            obtain ⟨w10, hw10⟩ : ∃ w10, w9.setCell ⟨S, 6, none⟩ (.slice (some ⟨g9, 0, none⟩) (Lm + 1) cap9) = w10 := ⟨_, rfl⟩
            obtain ⟨role10, HS10⟩ : ∃ role10, Hid (Moved role1 w2 role10 w10 ∧ SolIn w10 w.heap.size role10 S M gv gl gr vc vt1 (.slice (some ⟨g9, 0, none⟩) (Lm + 1) cap9) hd1 n cv wo1 wl1 cs1 tr1 (mk ++ [N])) := by
              rw [← hw10]
              have h1 : mk.length = Lm := HLM.out
              have h2 : vm = .slice ma Lm mc := by
                have h3 := HVM.out
                rw [h1] at h3
                exact h3
              subst h1
              obtain ⟨r, st, so⟩ := HS2.out.marked HB2.out.2 HWA.out.1 hown9 (by rw [h2]; exact hgrow9) (by rw [h2]; exact hat9) hlt9
              exact ⟨r, st.mono (by rintro r (e | e) <;> rw [e] <;> simp), so⟩
            rw [hw10]
            clear hw10 hown9 hgrow9 hat9 hlt9 hS9 q1 q3 hS hwd hwa hdB
            have hout10 := HS10.out.1.out HB2.out.1 HB2.out.2 HB1.out.2
            have HB10 := Lib.hid hout10
            have HRG10 := Lib.hid (HRG2.out.moved HS10.out.1)
            have hB10 : w.heap.size ≤ w10.heap.size := hout10.1.size
            have c0 : w10.cell? ⟨gga, i, none⟩ = some (.int .i64 g) := by
              have h1 := HRG10.out.1
              rw [HGL.out] at h1
              exact ownsRow_cell h1 (by unfold intsI; rw [List.getElem?_map, HGE.out]; rfl)
            have hNn : N ≤ 1000 := by have h1 := HN.out; omega
            have HSET := Lib.hid (set_c HS10.out.2 hB10 (why := -1) HLG.out (by omega) HOP.out (by rw [List.length_append, List.length_singleton]; omega) (by omega))
            clear hout10
            go_wp2_with fail
            refine HSET.out.mono ?_
            intro e w11 hpost
            obtain ⟨rfl, role11, vt11, hst11, hsol11⟩ := hpost
            have hmv11 : Moved role10 w10 role11 w11 := hst11.mono (by rintro r (e | e | e | e | e) <;> rw [e] <;> simp)
            have hmk2 : mk ++ [N] = mk ++ [tr1.length] := by rw [HN.out]
            have hlev : (mk ++ [N]).length = mk.length + 1 := by simp
            rw [hlev, hmk2] at hsol11
            have HFIN : Hid (SInv w n ls pr S M gv gl gr (.slice (some ⟨gga, 0, none⟩) gn gc) i ((2 ^ n - trV n (tr1 ++ [⟨g, mk.length + 1, -1⟩]) (mk ++ [tr1.length])) * (n + 2) + (n + 1 - (tr1 ++ [(⟨g, mk.length + 1, -1⟩ : En)]).length)) w11) := by
              refine ⟨role11, vc, vt11, _, hd1, cv, wo1, wl1, cs1, _, _, sg, hsol11, HGS.out, HCS1.out, ?_, fun m hm => ?_, ?_, HWL1.out, (hmv11.out HB10.out.1 hB10 HB10.out.2).1, HCOV1.out, HSGL1.out.pre (List.prefix_append _ _), ?_, HGI.out.pre (List.prefix_append _ _), HRG10.out.moved hmv11, Nat.le_refl _⟩
              · have h1 := HWAT1.out
                rw [HKE.out] at h1
                rw [HHE.out]
                exact h1.snoc (Nat.le_refl _)
              · rw [HHE.out]
                rcases List.mem_append.1 hm with h1 | h1
                · exact Nat.le_of_lt (HTR1.out.inn m h1)
                · rw [List.mem_singleton.1 h1]; exact Nat.le_refl _
              · rw [HHE.out, List.length_append]
                omega
              · rcases HCNT.out with ⟨h1, h2⟩ | ⟨h1, h2, h3, h4⟩
                · refine .inl ⟨h1, ?_⟩
                  have h5 := trV_guess (n := n) (tr := tr1) (mk := mk) ⟨g, mk.length + 1, -1⟩
                  have h6 := HFAR.out.tv
                  rw [HFAR.out.len]
                  omega
                · exfalso
                  have h5 := HTR1.out
                  have h6 := HWAT1.out
                  rw [HKE.out] at h6
                  rw [h2] at h5
                  obtain ⟨q', e', he', hv'⟩ := h1 cs1 tr1 sg h5 HCS1.out h6 HCOV1.out HSGL1.out (vr g) HLG.out.lt
                  exact HOP.out e' (List.mem_of_getElem? he') hv'
            have HLTK : Hid ((2 ^ n - trV n (tr1 ++ [⟨g, mk.length + 1, -1⟩]) (mk ++ [tr1.length])) * (n + 2) + (n + 1 - (tr1 ++ [(⟨g, mk.length + 1, -1⟩ : En)]).length) < k) := by
              refine Nat.lt_of_lt_of_le (meas_on (l0 := tr.length) ?_ ?_ ?_) HMEAS.out
              · have h5 := trV_guess (n := n) (tr := tr1) (mk := mk) ⟨g, mk.length + 1, -1⟩
                have h6 := HFAR.out.tv
                omega
              · have h5 := HFAR.out.pre.length_le
                rw [List.length_append, List.length_singleton]
                omega
              · rw [List.length_append, List.length_singleton]
                exact htn
            clear hst11 hsol11 hmv11 c0 hmk2 hlev
            go_wp2_with fail
            go_step3
            exact ⟨rfl, _, HLTK.out, rfl, rfl, rfl, S, M, gv, gl, gr, some ⟨gga, 0, none⟩, gn, gc, i, rfl, rfl, rfl, HGN.out, by omega, HFIN.out⟩
          · have HNX : Hid (Gone (gsOf n pr) tr1 (i + 1)) := fun j g' hj hg' => by
              by_cases e : j = i
              · subst e
                have h1 := HGE.out
                rw [h1] at hg'
                cases hg'
                rcases hcase with ⟨_, q', h1⟩ | ⟨_, q', h1⟩ | ⟨h1, _⟩
                · exact ⟨q', .inl h1⟩
                · exact ⟨q', .inr h1⟩
                · exact absurd h1 hop
              · exact HGI.out j g' (by omega) hg'
            have e1 : (isV tr1 g == 0) = false := by simpa using hop
            obtain ⟨vv, hvv⟩ : ∃ vv, isV tr1 g = vv := ⟨_, rfl⟩
            rw [hvv] at HIS e1
            clear hop hcase hvv
            go_wp2_with (go_at_call 31; refine HIS.out.mono ?_; rintro e w2 ⟨rfl, q2, rfl⟩)
            go_roundg (gI - 1)
            case measure => omega
            case rel => exact ⟨i + 1, q + q2, by go_num, by omega, by omega, by rw [HWR.out, World.drewN_drewN], HNX.out⟩
        · have hiE : i = gn := by omega
          have HFULL : Hid (Full n tr1) := by
            refine gone_full HGI.out ?_
            rw [HGL.out]
            omega
          replace hiE := Lib.hid hiE
          clear hb
          obtain ⟨wG, rfl⟩ : ∃ x : World, x = wr := ⟨_, rfl⟩
          have hmk := mk_bools n (by omega) wG
          obtain ⟨w2, hw2⟩ : ∃ w2, wG.alloc (.cells (Array.replicate n (.bool false)) 4) = w2 := ⟨_, rfl⟩
          rw [hw2] at hmk
          obtain ⟨gb, hgb⟩ : ∃ gb, wG.heap.size = gb := ⟨_, rfl⟩
          rw [hgb] at hmk
          have HW2 : Hid (Below wG.heap.size wG w2 ∧ BoxF w2 gb n (fun _ => .bool false) 4 ∧ wG.heap.size = gb) := by
            rw [← hw2, ← hgb]
            exact ⟨below1 _ _, boxF_alloc _ _ _ _, rfl⟩
          have HGB : Hid (w.heap.size ≤ gb) := by
            have h1 := HBT.out.2
            show w.heap.size ≤ gb
            omega
          clear hw2 hgb
          go_wp2_with fail
          go_loopg [173] n (fun gf v173 wx => ∃ i : Nat, v173 = .int .i64 (i : Int) ∧ i ≤ n ∧ n ≤ i + gf ∧ Hid (Below wG.heap.size wG wx ∧ BoxF wx gb n (fun u => .bool (if u < i then asgOf tr1 u else false)) 4))
          case atStart => exact ⟨0, rfl, Nat.zero_le _, by omega, HW2.out.1, HW2.out.2.1.congr fun u _ => by simp⟩
          case round =>
            obtain ⟨gV, rfl⟩ : ∃ x : Nat, x = gk := ⟨_, rfl⟩
            obtain ⟨u, rfl, hun, hfu, HU⟩ := hrel
            by_cases hu : u < n
            · have hu1 : (u : Int) < (n : Int) := by omega
              have b2 := (HSW.out.box.below HU.out.1).cell (j := 2) rfl
              have v0 : wr.cell? ⟨gv, u, none⟩ = some (.int .i64 (valOf tr1 u)) := cell_tr HU.out.1 (HSW.out.vals.cell hu)
              have o0 := HU.out.2.cell hu
              have o1 := HU.out.2.frozen u
              have hva := val_asg HTR1.out HFULL.out hu
              have hgb1 : gb ≠ gv := fun e => by
                have h1 := HSW.out.vals.lt
                have h2 := HW2.out.2.2
                omega
              obtain ⟨x, hx⟩ : ∃ x, valOf tr1 u = x := ⟨_, rfl⟩
              rw [hx] at v0 hva
              have o0' : wr.cell? ⟨gb, u, none⟩ = some (.bool false) := by
                rw [o0]
                simp
              have HN : Hid (∀ bb, asgOf tr1 u = bb → Below wG.heap.size wG (wr.setCell ⟨gb, u, none⟩ (.bool bb)) ∧ BoxF (wr.setCell ⟨gb, u, none⟩ (.bool bb)) gb n (fun v => .bool (if v < u + 1 then asgOf tr1 v else false)) 4) := fun bb hbb => by
                have h2 := HW2.out.2.2
                refine ⟨below_sc HU.out.1 (by omega) u _, (HU.out.2.set u (.bool bb)).congr fun v _ => ?_⟩
                by_cases e : v = u
                · subst e
                  rw [if_pos rfl, if_pos (by omega), hbb]
                · rw [if_neg e]
                  by_cases e2 : v < u
                  · rw [if_pos e2, if_pos (by omega)]
                  · rw [if_neg e2, if_neg (by omega)]
              by_cases hpos : 0 < x
              · have hN := Lib.hid (HN.out true (by rw [hva]; simpa using hpos))
                clear hx hva o0
                go_wp2_with fail
                go_roundg (gV - 1)
                case measure => omega
                case rel => exact ⟨u + 1, by go_num, by omega, by omega, hN.out⟩
              · have hN := Lib.hid (HN.out false (by rw [hva]; simpa using hpos))
                clear hx hva o0
                go_wp2_with fail
                go_roundg (gV - 1)
                case measure => omega
                case rel => exact ⟨u + 1, by go_num, by omega, by omega, hN.out⟩
            · have HF : Hid (Q (.returned (.tuple #[.slice (some ⟨gb, 0, none⟩) n n, .bool true, .int .i64 0])) wr) := by
                rw [← hQ.out]
                refine ⟨HBT.out.1.trans (below_to HU.out.1 HBT.out.2), .inl ⟨gb, asgOf tr1, rfl, HGB.out, HU.out.2.congr fun v hv => ?_, ?_⟩⟩
                · rw [if_pos (by omega)]
                · have h6 := HWAT1.out
                  rw [HKE.out] at h6
                  exact best_found HTR1.out HCS1.out h6 HFULL.out HOK.out.1 HOK.out.2 HCOV1.out HSGL1.out
              go_wp2_with fail
              dsimp only [Exit.jump, Exit.noGoto, Exit.inBlock, Exit.then]
              first
                | exact HF.out
                | exact bodyPost_ret (v := .tuple #[.slice (some ⟨gb, 0, none⟩) n n, .bool true, .int .i64 0]) (by simp [results, Try.results14, go_sem]) rfl HF.out
    · subst hr
      obtain ⟨ma, mc, hvm⟩ := ownsRow_slice HSOL1.out.mrow
      subst hvm
      obtain ⟨L, hL⟩ : ∃ L, mk.length = L := ⟨_, rfl⟩
      have b6 := HSOL1.out.box.cell (j := 6) rfl
      rw [hL] at b6 hml1
      have HL := Lib.hid hL
      have HCB := Lib.hid hcb
      have HFL := Lib.hid hfalse
      have HAT0 : Hid (∃ x ∈ c, ∃ (q : Nat) (e : En), tr1[q]? = some e ∧ e.lit = -x ∧ e.lev = mk.length) := by
        obtain ⟨e, he, hel⟩ := hat0
        exact ⟨x0, hx0, kk, e, he, hel, lev_last HTR1.out HMK1.out he⟩
      clear hL hcb hfalse hx0 hat0
      by_cases hL0 : L = 0
      · subst hL0
        have HF : Hid (∀ W, Below w1.heap.size w1 W → Q (.returned (.tuple #[.slice none 0 0, .bool false, .int .i64 0])) W) := fun W hW => by
          rw [← hQ.out]
          have hmk0 : mk = [] := List.eq_nil_of_length_eq_zero HL.out
          refine ⟨HB1.out.1.trans (below_to hW HB1.out.1.size), .inr ⟨rfl, fun v => ?_⟩⟩
          have h1 := HTR1.out
          rw [hmk0] at h1
          exact none_holds h1 HCS1.out (List.mem_of_getElem? HCB.out) HFL.out v
        go_wp2_with fail
        dsimp only [Exit.jump, Exit.noGoto, Exit.inBlock, Exit.then]
        exact bodyPost_ret (v := .tuple #[.slice none 0 0, .bool false, .int .i64 0]) (by simp [results, Try.results14, go_sem]) rfl (HF.out _ (Below.refl _ _))
      · have e1 : ((L : Int) == 0) = false := by simp; omega
        have HM0 : Hid (mk ≠ []) := fun h => hL0 (by rw [← HL.out, h]; rfl)
        have HLEARN := Lib.hid (learn_c HSOL1.out HB1.out.1.size (by omega) HTR1.out HCS1.out HM0.out HCB.out HFL.out HAT0.out)
        go_wp2_with fail
        refine HLEARN.out.mono ?_
        intro e w2 hpost
        obtain ⟨go, lo, co, c2, back, rfl, hb2, hgo2, hgl2, hrow2, hlo2, hLd⟩ := hpost
        have HLD := Lib.hid hLd
        have hbl : back < mk.length := hLd.lt
        obtain ⟨m, hm⟩ : ∃ m, mk[back]? = some m := ⟨_, List.getElem?_eq_getElem hbl⟩
        have HM := Lib.hid hm
        have HB2 : Hid (Below w1.heap.size w1 w2) := hb2
        have HG2 : Hid (w1.heap.size ≤ go) := hgo2
        have hB2 : w.heap.size ≤ w2.heap.size := Nat.le_trans HB1.out.1.size hb2.size
        have hS2 := HSOL1.out.below HB1.out.1.size hb2
        have hmm : m ∈ mk := List.mem_of_getElem? hm
        obtain ⟨a, t, hct, hla, hopa, hlt, hft, hone, hmany⟩ := hLd.laid HTR1.out HCS1.out hm HWAT1.out (HMK1.out m hmm)
        have HUNDO := Lib.hid (undo_c hS2 hB2 (by omega) HTR1.out hm (by rw [HL.out]; omega))
        have hgf : role1 go = .free := HSOL1.out.out_free hgo2
        have HG : Hid (role1 go = .free ∧ go < w2.heap.size ∧ w.heap.size ≤ go ∧ w2.ownsRow w.heap.size 3 1 (.slice (some ⟨go, 0, none⟩) lo co) c2.length (intsI c2) ∧ lo = c2.length) := ⟨hgf, hgl2, Nat.le_trans HB1.out.1.size hgo2, ownsRow_base hrow2 HB1.out.1.size, hlo2⟩
        have hmltr : m < tr1.length := HTR1.out.inn m hmm
        have hmltrH := Lib.hid hmltr
        have hmn : m < n := by omega
        have HTV : Hid (∀ e, trV n tr mk + 1 ≤ trV n (tr1.take m ++ [e]) (mk.take back)) := fun e => Nat.lt_of_le_of_lt HFAR.out.tv (trV_back HTR1.out hm hmn e)
        have HCNT2 : Hid (ls.length + 2 ^ n ≤ 4398046511104 ∧ cs1.length ≤ ls.length + trV n tr mk) := by
          rcases HCNT.out with ⟨h1, h2⟩ | ⟨_, h2, _⟩
          · exact ⟨h1, by rw [HFAR.out.len]; exact h2⟩
          · exact absurd h2 HM0.out
        have hcsb : cs1.length ≤ 4398046511104 := by
          have h1 := HCNT2.out
          have h2 := trV_lt n tr mk
          omega
        have HMK2 : Hid (∀ x ∈ mk.take back, x ≤ m) := fun x hx => by
          have h1 := (HTR1.out.undo hm).inn x hx
          rw [List.length_take] at h1
          omega
        have HSG2 := Lib.hid (HSGL1.out.undo HTR1.out hm)
        have hmkb : (mk.take back).length ≤ 1000 := by rw [List.length_take]; have h1 : mk.length = L := HL.out; omega
        have htrb : (tr1.take m).length ≤ 1000 := by rw [List.length_take]; omega
        have hlen2 : (tr1.take m).length = m := by rw [List.length_take]; omega
        have HLEN2 := Lib.hid hlen2
        have HCT := Lib.hid hct
        have HLA := Lib.hid hla
        have HOPA := Lib.hid hopa
        have HONE := Lib.hid hone
        have HMANY := Lib.hid hmany
        have HLT := Lib.hid hlt
        have hlo1 : lo = t.length + 1 := by rw [hlo2, hct]; rfl
        have HLO1 := Lib.hid hlo1
        have hmkbI := Lib.hid hmkb
        have htrbI := Lib.hid htrb
        clear hb2 hgo2 hgl2 hrow2 hlo2 hLd hm hmm hS2 hgf hct hla hopa hlt hft hone hmany hlen2 hlo1 HLEARN hmltr hmkb htrb hbl
        go_wp2_with fail
        refine HUNDO.out.mono ?_
        intro e w3 hpost
        obtain ⟨rfl, vt3, vm3, hst3, hsol3⟩ := hpost
        have hmv3 : Moved role1 w2 role1 w3 := hst3.mono (by rintro r (e | e) <;> rw [e] <;> simp)
        have hrow3 : w3.heap[go]? = w2.heap[go]? := (hst3.same go HG.out.2.1 (by rw [HG.out.1]; rintro (e | e) <;> cases e)).1
        have HROW3 : Hid (w3.ownsRow w.heap.size 3 1 (.slice (some ⟨go, 0, none⟩) lo co) c2.length (intsI c2)) := ownsRow_to HG.out.2.2.2.1 fun g hg => by cases hg; exact hrow3
        have hout3 := hmv3.out (HB1.out.1.trans (below_to HB2.out HB1.out.1.size)) hB2 HB1.out.2
        have HB3 := Lib.hid hout3
        have HS3 := Lib.hid hsol3
        have HRG3 := Lib.hid ((HRG1.out.below HB2.out).moved hmv3)
        have hgl3 : go < w3.heap.size := Nat.lt_of_lt_of_le HG.out.2.1 hst3.size
        have c0 : w3.cell? ⟨go, 0, none⟩ = some (.int .i64 a) := by
          have h1 := HROW3.out
          have h2 : lo = c2.length := HG.out.2.2.2.2
          rw [← h2] at h1
          exact ownsRow_cell h1 (by rw [HCT.out]; rfl)
        have hB3 : w.heap.size ≤ w3.heap.size := hout3.1.size
        have hlo4 : lo ≤ 1001 := by
          have h1 := clause_len_of HLD.out.one (n := n) (fun x hx => by
            rw [HCT.out] at hx
            rcases List.mem_cons.1 hx with e | hx
            · rw [e]; exact HLA.out
            · exact HLT.out x hx)
          have h2 : lo = c2.length := HG.out.2.2.2.2
          omega
        clear hst3 hsol3 hmv3 hrow3 hout3
        by_cases ht : t = []
        · have h1 : lo = 1 := by rw [HLO1.out, ht]; rfl
          obtain ⟨htr3, hcs3, hwat3, hback0⟩ := HONE.out ht
          subst h1
          have HSET := Lib.hid (set_c HS3.out hB3 (why := -1) HLA.out (by omega) HOPA.out hmkbI.out htrbI.out)
          have HT3 : Hid (Tr n ls (gsOf n pr) cs1 (tr1.take m ++ [⟨a, (mk.take back).length, -1⟩]) (mk.take back) ∧ Wat cs1 (tr1.take m ++ [⟨a, (mk.take back).length, -1⟩]) m) := ⟨htr3, hwat3⟩
          clear ht htr3 hcs3 hwat3 hback0
          go_wp2_with fail
          refine HSET.out.mono ?_
          intro e w5 hpost
          obtain ⟨rfl, role5, vt5, hst5, hsol5⟩ := hpost
          have hmv5 : Moved role1 w3 role5 w5 := hst5.mono (by rintro r (e | e | e | e | e) <;> rw [e] <;> simp)
          have HFIN : Hid (SInv w n ls pr S M gv gl gr (.slice ga gn gc) 0 ((2 ^ n - trV n (tr1.take m ++ [⟨a, (mk.take back).length, -1⟩]) (mk.take back)) * (n + 2) + (n + 1 - (tr1.take m ++ [(⟨a, (mk.take back).length, -1⟩ : En)]).length)) w5) := by
            refine ⟨role5, vc, vt5, vm3, m, cv, wo1, wl1, cs1, _, _, sg, hsol5, HT3.out.1, HCS1.out, HT3.out.2, HMK2.out, ?_, HWL1.out, (hmv5.out HB3.out.1 hB3 HB3.out.2).1, HCOV1.out, HSG2.out.pre (List.prefix_append _ _), .inl ⟨HCNT2.out.1, ?_⟩, fun i g h => absurd h (Nat.not_lt_zero _), HRG3.out.moved hmv5, Nat.le_refl _⟩
            · rw [List.length_append, HLEN2.out]; omega
            · have h1 := HTV.out ⟨a, (mk.take back).length, -1⟩
              have h2 := HCNT2.out.2
              omega
          have HLTK : Hid ((2 ^ n - trV n (tr1.take m ++ [⟨a, (mk.take back).length, -1⟩]) (mk.take back)) * (n + 2) + (n + 1 - (tr1.take m ++ [(⟨a, (mk.take back).length, -1⟩ : En)]).length) < k) := by
            refine Nat.lt_of_lt_of_le (meas_back (l0 := tr.length) ?_) HMEAS.out
            have h1 := HTV.out ⟨a, (mk.take back).length, -1⟩
            have h2 := trV_lt n (tr1.take m ++ [⟨a, (mk.take back).length, -1⟩]) (mk.take back)
            omega
          clear hst5 hsol5 hmv5 c0
          go_wp2_with fail
          go_step3
          exact ⟨rfl, _, HLTK.out, rfl, rfl, rfl, S, M, gv, gl, gr, ga, gn, gc, 0, rfl, rfl, rfl, HGN.out, Nat.zero_le _, HFIN.out⟩
        · have htl : 1 ≤ t.length := List.length_pos_iff.2 ht
          have hlo5 : (1 : Int) < (lo : Int) := by have h1 := HLO1.out; omega
          obtain ⟨htr3, hcs3, hwat3⟩ := HMANY.out ht
          have hrr : SolIn w3 w.heap.size (fun b => if b = go then .clause cs1.length else role1 b) S M gv gl gr vc vt3 vm3 m n cv wo1 wl1 cs1 (tr1.take m) (mk.take back) := HS3.out.rerole (R := .clause cs1.length) (.inr HG.out.1) hgl3 HG.out.2.2.1
          have hfr : ∀ b, b < w.heap.size → (fun b => if b = go then Role.clause cs1.length else role1 b) b = .free := fun b hb => by
            show (if b = go then _ else role1 b) = .free
            have h1 := HG.out.2.2.1
            rw [if_neg (by omega)]
            exact HB1.out.2 b hb
          have hrg4 : RowF w3 w.heap.size (fun b => if b = go then Role.clause cs1.length else role1 b) (.slice ga gn gc) (gsOf n pr) := ⟨HRG3.out.1, fun g hg => by
            show (if g = go then _ else role1 g) = .free
            have h1 := (HRG1.out.1.lt g hg).2
            have h2 := HSOL1.out
            rw [if_neg (fun e => by
              subst e
              have h3 := HG2.out
              omega)]
            exact HRG3.out.2 g hg⟩
          have hokc : ∀ x ∈ c2, Lok n x := fun x hx => by
            rw [HCT.out] at hx
            rcases List.mem_cons.1 hx with e | hx
            · rw [e]; exact HLA.out
            · exact HLT.out x hx
          have hc2l : 2 ≤ c2.length := by rw [HCT.out, List.length_cons]; omega
          have HADD := Lib.hid (add_c hrr hB3 (by omega) (vn := .slice (some ⟨go, 0, none⟩) lo co) (c := c2) HROW3.out (fun b hb => by cases hb; exact if_pos rfl) hc2l hokc (nodup_of_vr HLD.out.one) hcsb (fun x hx => Nat.le_trans (HWL1.out.len x) hcsb))
          have HT3 : Hid (Tr n ls (gsOf n pr) (cs1 ++ [c2]) (tr1.take m ++ [⟨a, (mk.take back).length, (cs1.length : Int)⟩]) (mk.take back) ∧ Cs n ls (cs1 ++ [c2]) ∧ Wat (cs1 ++ [c2]) (tr1.take m ++ [⟨a, (mk.take back).length, (cs1.length : Int)⟩]) m) := ⟨htr3, hcs3, hwat3⟩
          have HFR := Lib.hid hfr
          have HRG4 := Lib.hid hrg4
          have HWLM := Lib.hid (HWL1.out.more hc2l)
          clear htr3 hcs3 hwat3 hrr hfr hrg4 hokc hc2l ht htl
          go_wp2_with fail
          refine HADD.out.mono ?_
          intro e w4 hpost
          obtain ⟨rfl, role4, vc4, cv4, wo4, hst4, hsol4⟩ := hpost
          have hmv4 : Moved (fun b => if b = go then Role.clause cs1.length else role1 b) w3 role4 w4 := hst4.mono (by rintro r (e | e | e | e | ⟨l, e⟩) <;> rw [e] <;> simp)
          have hgo4 : w4.heap[go]? = w3.heap[go]? := (hst4.same go hgl3 (by
            show ¬ AddT (if go = go then Role.clause cs1.length else role1 go)
            rw [if_pos rfl]
            rintro (e | e | e | e | ⟨l, e⟩) <;> cases e)).1
          have c0 : w4.cell? ⟨go, 0, none⟩ = some (.int .i64 a) := cell_blk hgo4 c0
          have hout4 := hmv4.out HB3.out.1 hB3 HFR.out
          have HB4 := Lib.hid hout4
          have hB4 : w.heap.size ≤ w4.heap.size := hout4.1.size
          have HRG5 := Lib.hid (HRG4.out.moved hmv4)
          have HSET := Lib.hid (set_c hsol4 hB4 (why := (cs1.length : Int)) HLA.out (by omega) HOPA.out hmkbI.out htrbI.out)
          clear hst4 hsol4 hmv4 hgo4 hout4
          go_wp2_with fail
          refine HSET.out.mono ?_
          intro e w5 hpost
          obtain ⟨rfl, role5, vt5, hst5, hsol5⟩ := hpost
          have hmv5 : Moved role4 w4 role5 w5 := hst5.mono (by rintro r (e | e | e | e | e) <;> rw [e] <;> simp)
          have HFIN : Hid (SInv w n ls pr S M gv gl gr (.slice ga gn gc) 0 ((2 ^ n - trV n (tr1.take m ++ [⟨a, (mk.take back).length, (cs1.length : Int)⟩]) (mk.take back)) * (n + 2) + (n + 1 - (tr1.take m ++ [(⟨a, (mk.take back).length, (cs1.length : Int)⟩ : En)]).length)) w5) := by
            refine ⟨role5, vc4, vt5, vm3, m, cv4, wo4, _, cs1 ++ [c2], _, _, sg, hsol5, HT3.out.1, HT3.out.2.1, HT3.out.2.2, HMK2.out, ?_, HWLM.out, (hmv5.out HB4.out.1 hB4 HB4.out.2).1, HCOV1.out.far (fun d hd => ⟨d, List.mem_append_left _ hd, fun _ h => h⟩), HSG2.out.pre (List.prefix_append _ _), .inl ⟨HCNT2.out.1, ?_⟩, fun i g h => absurd h (Nat.not_lt_zero _), HRG5.out.moved hmv5, Nat.le_refl _⟩
            · rw [List.length_append, HLEN2.out]; omega
            · have h1 := HTV.out ⟨a, (mk.take back).length, (cs1.length : Int)⟩
              have h2 := HCNT2.out.2
              rw [List.length_append, List.length_singleton]
              omega
          have HLTK : Hid ((2 ^ n - trV n (tr1.take m ++ [⟨a, (mk.take back).length, (cs1.length : Int)⟩]) (mk.take back)) * (n + 2) + (n + 1 - (tr1.take m ++ [(⟨a, (mk.take back).length, (cs1.length : Int)⟩ : En)]).length) < k) := by
            refine Nat.lt_of_lt_of_le (meas_back (l0 := tr.length) ?_) HMEAS.out
            have h1 := HTV.out ⟨a, (mk.take back).length, (cs1.length : Int)⟩
            have h2 := trV_lt n (tr1.take m ++ [⟨a, (mk.take back).length, (cs1.length : Int)⟩]) (mk.take back)
            omega
          clear hst5 hsol5 hmv5 c0
          go_wp2_with fail
          go_step3
          exact ⟨rfl, _, HLTK.out, rfl, rfl, rfl, S, M, gv, gl, gr, ga, gn, gc, 0, rfl, rfl, rfl, HGN.out, Nat.zero_le _, HFIN.out⟩
  · intro HMORE0
    have HMORE := Lib.hid HMORE0
    clear HMORE0
    go_upto_region 4 with (go_at_call 27; refine HCHK.out.mono ?_; rintro e w1 ⟨rfl, hb1⟩; have HB1 := Lib.hid hb1; clear hb1)
    have HBW : Hid (B ≤ w1.heap.size) := by
      have h1 := HB1.out.size
      have h2 : w.heap.size = B := HBE.out
      show B ≤ w1.heap.size
      omega
    go_cut [10] from 27 (fun v10 wx => ∃ S, v10 = .pointer (some ⟨S, 0, none⟩) ∧ Hid (∃ M gv gl gr, Made wx B S M gv gl gr n ∧ Below w1.heap.size w1 wx))
    case first =>
      refine Mono2.wp_region_mono (mkV B n) (fun W W' => Below W.heap.size W W') mkA mkD (by kernel_rfl) (by kernel_rfl) (fun W => Below.refl _ _) mkV_keep (fun a b c => below_tr) ?_ ?_
      · refine ⟨Mono2.Step.plain rfl ?_, Mono2.Step.plain rfl ?_, Mono2.Step.plain rfl ?_, Mono2.Step.plain rfl ?_, Mono2.Step.plain rfl ?_, Mono2.Step.plain rfl ?_, Mono2.Step.plain rfl ?_, Mono2.Step.plain rfl ?_, Mono2.Step.plain rfl ?_, Mono2.Step.plain rfl ?_, trivial⟩
        · intro vs W hR hk hd K hK
          have hBW : B ≤ W.heap.size := Nat.le_trans HBW.out hR.size
          simp [Mono2.actOf, Mono2.deps, Mono2.dstOf, Region.binds, Act.put]
          go_simp
          exact hK _ _ (below1 _ _) ⟨_, rfl, alloc_at _ _, hBW⟩ (fun h => by cases h)
        · intro vs W hR hk hd K hK
          simp [Mono2.actOf, Mono2.deps, Mono2.dstOf, Region.binds, Act.put]
          go_simp
          exact hK _ _ (Below.refl _ _) rfl (fun h => by cases h)
        · intro vs W hR hk hd K hK
          have hBW : B ≤ W.heap.size := Nat.le_trans HBW.out hR.size
          have h1 : vs 1 = .int .i64 (n : Int) := hk 1 (by decide)
          simp [Mono2.actOf, Mono2.deps, Mono2.dstOf, Region.binds, Act.put, h1]
          go_simp
          exact hK _ _ (below1 _ _) ⟨_, rfl, boxF_alloc _ _ _ _, hBW⟩ (fun h j u hj hu => mkD_new hj hu)
        · intro vs W hR hk hd K hK
          simp [Mono2.actOf, Mono2.deps, Mono2.dstOf, Region.binds, Act.put]
          go_simp
          exact hK _ _ (Below.refl _ _) rfl (fun h => by cases h)
        · intro vs W hR hk hd K hK
          have hBW : B ≤ W.heap.size := Nat.le_trans HBW.out hR.size
          have h1 : vs 3 = .int .i64 (n : Int) := hk 3 (by decide)
          simp [Mono2.actOf, Mono2.deps, Mono2.dstOf, Region.binds, Act.put, h1]
          go_simp
          exact hK _ _ (below1 _ _) ⟨_, rfl, boxF_alloc _ _ _ _, hBW⟩ (fun h j u hj hu => mkD_new hj hu)
        · intro vs W hR hk hd K hK
          simp [Mono2.actOf, Mono2.deps, Mono2.dstOf, Region.binds, Act.put]
          go_simp
          exact hK _ _ (Below.refl _ _) rfl (fun h => by cases h)
        · intro vs W hR hk hd K hK
          have hBW : B ≤ W.heap.size := Nat.le_trans HBW.out hR.size
          have h1 : vs 5 = .int .i64 (n : Int) := hk 5 (by decide)
          simp [Mono2.actOf, Mono2.deps, Mono2.dstOf, Region.binds, Act.put, h1]
          go_simp
          exact hK _ _ (below1 _ _) ⟨_, rfl, boxF_alloc _ _ _ _, hBW⟩ (fun h j u hj hu => mkD_new hj hu)
        · intro vs W hR hk hd K hK
          obtain ⟨M, h0, h0b, h0c⟩ : ∃ M, vs 0 = .map (some M) ∧ W.heap[M]? = some (.map #[] 0) ∧ B ≤ M := hk 0 (by decide)
          obtain ⟨ga, h2, h2b⟩ : ∃ g, vs 2 = .slice (some ⟨g, 0, none⟩) n n ∧ BoxF W g n (fun _ => .int .i64 0) 3 ∧ B ≤ g := hk 2 (by decide)
          obtain ⟨gb, h4, h4b⟩ : ∃ g, vs 4 = .slice (some ⟨g, 0, none⟩) n n ∧ BoxF W g n (fun _ => .int .i64 0) 3 ∧ B ≤ g := hk 4 (by decide)
          obtain ⟨gc, h6, h6b⟩ : ∃ g, vs 6 = .slice (some ⟨g, 0, none⟩) n n ∧ BoxF W g n (fun _ => .int .i64 0) 3 ∧ B ≤ g := hk 6 (by decide)
          have d1 : ga ≠ gb := fun e => hd 2 4 (by decide) rfl rfl (by decide) (by decide) ga n n n n h2 (by rw [h4, e])
          have d2 : ga ≠ gc := fun e => hd 2 6 (by decide) rfl rfl (by decide) (by decide) ga n n n n h2 (by rw [h6, e])
          have d3 : gb ≠ gc := fun e => hd 4 6 (by decide) rfl rfl (by decide) (by decide) gb n n n n h4 (by rw [h6, e])
          replace HK := Lib.hid hK
          have HX : Hid (W.heap[M]? = some (.map #[] 0) ∧ B ≤ M ∧ (BoxF W ga n (fun _ => .int .i64 0) 3 ∧ B ≤ ga) ∧ (BoxF W gb n (fun _ => .int .i64 0) 3 ∧ B ≤ gb) ∧ (BoxF W gc n (fun _ => .int .i64 0) 3 ∧ B ≤ gc) ∧ ga ≠ gb ∧ ga ≠ gc ∧ gb ≠ gc) := ⟨h0b, h0c, h2b, h4b, h6b, d1, d2, d3⟩
          clear hK hd hk h0b h0c h2b h4b h6b d1 d2 d3
          simp [Mono2.actOf, Mono2.deps, Mono2.dstOf, Region.binds, Act.put, h0, h2, h4, h6]
          go_simp
          exact HK.out _ _ (Below.refl _ _) ⟨M, ga, gb, gc, rfl, HX.out⟩ (fun h => by cases h)
        · intro vs W hR hk hd K hK
          have hBW : B ≤ W.heap.size := Nat.le_trans HBW.out hR.size
          obtain ⟨M, ga, gb, gc, h7, h7b⟩ := hk 7 (by decide)
          have HX := Lib.hid h7b
          have HK := Lib.hid hK
          clear hK hd hk h7b
          simp [Mono2.actOf, Mono2.deps, Mono2.dstOf, Region.binds, Act.put, h7]
          go_simp
          obtain ⟨m1, m2, m3, m4, m5, m6, m7, m8⟩ := HX.out
          exact HK.out _ _ (below1 _ _) ⟨_, M, ga, gb, gc, rfl, boxN_alloc W [.slice none 0 0, .map (some M), .slice (some ⟨ga, 0, none⟩) n n, .slice (some ⟨gb, 0, none⟩) n n, .slice (some ⟨gc, 0, none⟩) n n, .slice none 0 0, .slice none 0 0, .int .i64 0] 54, ((below1 W _).block M (map_lt m1)).trans m1, m3.1.below (below1 _ _), m4.1.below (below1 _ _), m5.1.below (below1 _ _), m6, m7, m8, hBW, m2, m3.2, m4.2, m5.2⟩ (fun h => by cases h)
        · intro vs W hR hk hd K hK
          obtain ⟨S', M, ga, gb, gc, h8, h8b⟩ := hk 8 (by decide)
          have HX := Lib.hid h8b
          have HK := Lib.hid hK
          clear hK hd hk h8b
          simp [Mono2.actOf, Mono2.deps, Mono2.dstOf, Region.binds, Act.put, h8]
          go_simp
          exact HK.out _ _ (Below.refl _ _) ⟨S', M, ga, gb, gc, rfl, HX.out⟩ (fun h => by cases h)
      · intro vs W hR hV hD
        obtain ⟨S', M, ga, gb, gc, h9, h9b⟩ := hV 9 (by decide)
        have HX : Hid (∃ M gv gl gr, Made W B S' M gv gl gr n ∧ Below w1.heap.size w1 W) := ⟨M, ga, gb, gc, h9b, below_tr (below_dr1 (Below.refl _ _)) hR⟩
        clear hV hD h9b
        simp [Mono2.fill, Mono2.dstOf, Act.put, List.range, List.range.loop, h9]
        go_wp2_with fail
        go_meet
        case rel => exact ⟨S', rfl, HX⟩
    case rest =>
      obtain ⟨S, rfl, HM⟩ := hcut
      obtain ⟨M, gv, gl, gr, hmade, hbm⟩ := HM.out
      obtain ⟨role0, hsol0⟩ := hmade.sol
      have HS0 : Hid (SolIn wc w.heap.size role0 S M gv gl gr (.slice none 0 0) (.slice none 0 0) (.slice none 0 0) 0 n (fun _ => .slice none 0 0) (fun _ => none) (fun _ => []) [] [] []) := by
        rw [show w.heap.size = B from HBE.out]
        exact hsol0
      have HBC : Hid (Below w.heap.size w wc) := below_tr HB1.out hbm
      clear HM hmade hbm hsol0 hmk hmm
      have HCL := Lib.hid (clone_c (HP.out.below HBC.out) (by have h1 : pr.length ≤ 17592186043904 := HPB.out; omega))
      go_wp2_with fail
      refine HCL.out.mono ?_
      rintro e w2 ⟨v2, rfl, ho2⟩
      obtain ⟨ga, gc, hv2⟩ := ownsRow_slice ho2.1
      subst hv2
      have HO2 := Lib.hid ho2
      clear ho2 HCL
      obtain ⟨i3, hi3, hz30, hz31, hz32⟩ := info_parts info3
      have hg0 : gsOf 0 pr = pr := by unfold gsOf; simp
      obtain ⟨gn, hgn⟩ : ∃ gn, pr.length = gn := ⟨_, rfl⟩
      rw [hgn]
      replace hgn := Lib.hid hgn
      replace hg0 := Lib.hid hg0
      have hgnb : gn ≤ 17592186043904 := by
        have h1 : pr.length ≤ 17592186043904 := HPB.out
        have h2 : pr.length = gn := hgn.out
        omega
      have hn400 : (n : Int) ≤ 400 := by omega
      go_wp2_with fail
      go_loopg [11, 46] n (fun gk v11 v46 wx => ∃ (i : Nat) (ga : Option Addr) (gi gc : Nat), v11 = .slice ga gi gc ∧ v46 = .int .i64 (i : Int) ∧ i ≤ n ∧ n ≤ i + gk ∧ gi = gn + i ∧ Hid (Below wc.heap.size wc wx ∧ wx.ownsRow wc.heap.size 3 1 (.slice ga gi gc) gi (intsI (gsOf i pr))))
      case atStart =>
        refine ⟨0, ga, gn, gc, rfl, rfl, Nat.zero_le _, by omega, rfl, HO2.out.2, ?_⟩
        have h1 := HO2.out.1
        rw [show pr.length = gn from hgn.out] at h1
        rw [show gsOf 0 pr = pr from hg0.out]
        exact h1
      case round =>
        clear HO2
        obtain ⟨i, ga, gi, gc, rfl, rfl, hin, hfi, hgi, HI⟩ := hrel
        by_cases hi : i < n
        · have hi1 : (i : Int) < (n : Int) := by omega
          obtain ⟨WA, hWA⟩ : ∃ WA, wr.alloc (.cells #[.int .i64 (-(i : Int) - 1)] 3) = WA := ⟨_, rfl⟩
          have HWA : Hid (Below wc.heap.size wc WA ∧ BoxN WA wr.heap.size [.int .i64 (-(i : Int) - 1)] 3 ∧ WA.ownsRow wc.heap.size 3 1 (.slice ga gi gc) gi (intsI (gsOf i pr)) ∧ wc.heap.size ≤ WA.heap.size) := by
            rw [← hWA]
            have hb := HI.out.1.trans (below_to (below1 wr (.cells #[.int .i64 (-(i : Int) - 1)] 3)) HI.out.1.size)
            exact ⟨hb, boxN_alloc _ _ _, ownsRow_below HI.out.2 (below1 _ _), hb.size⟩
          have hgib : gi ≤ 17592186044304 := by omega
          replace hgi := Lib.hid hgi
          go_wp2_with (at_builtin; refine wpList_append_lies _ rfl (.tmp 49) (.tmp 53) 24 rfl wc.heap.size 3 i3 (.int .i64 0) 1 8 Try.underlying24 hi3 hz30 hz31 hz32 rfl (by decide) (.slice ga gi gc) gi (intsI (gsOf i pr)) rfl HWA.out.2.2.1 ⟨wr.heap.size, 0, none⟩ 1 1 [.int .i64 (-(i : Int) - 1)] rfl rfl (World.news_of_block (cs := #[.int .i64 (-(i : Int) - 1)]) (t := 3) (fr := (0, 0)) HWA.out.2.1) (by simp [Value.oneCell']) (by omega) (by unfold maxLen; omega) (by omega) HWA.out.2.2.2 WA.heap.size rfl ?_; intro g9 cap9 w9 hown9 hgrow9 hat9 hlt9)
          have HN : Hid (Below wc.heap.size wc w9 ∧ w9.ownsRow wc.heap.size 3 1 (.slice (some ⟨g9, 0, none⟩) (gi + 1) cap9) (gi + 1) (intsI (gsOf (i + 1) pr))) := by
            refine ⟨HWA.out.1.trans (grown_own HWA.out.2.2.1 HWA.out.2.2.2 hgrow9), ?_⟩
            rw [gsOf_succ, intsI_snoc]
            exact hown9
          have hgi2 : gi + 1 = gn + (i + 1) := by have h1 : gi = gn + i := hgi.out; omega
          replace hgi2 := Lib.hid hgi2
          clear hown9 hgrow9 hat9 hlt9
          go_roundg (gk - 1)
          case measure => omega
          case rel => exact ⟨i + 1, some ⟨g9, 0, none⟩, gi + 1, cap9, rfl, by go_num, by omega, by omega, hgi2.out, HN.out⟩
        · have hiE : i = n := by omega
          have HR : Hid (wr.ownsRow wc.heap.size 3 1 (.slice ga gi gc) gi (intsI (gsOf n pr)) ∧ Below wc.heap.size wc wr ∧ gi = (gsOf n pr).length) := by
            rw [← hiE]
            refine ⟨HI.out.2, HI.out.1, ?_⟩
            rw [gsOf_len, show pr.length = gn from hgn.out]
            exact hgi
          replace hiE := Lib.hid hiE
          replace hgi := Lib.hid hgi
          clear HI
          obtain ⟨vg, hvg⟩ : ∃ vg, (Value.slice ga gi gc) = vg := ⟨_, rfl⟩
          have HF20 : Hid (F2 w n ls pr S M gv gl gr vg 0 (.slice none 0 0) wr) := by
            rw [← hvg]
            have hsz := HBC.out.size
            refine ⟨role0, _, _, _, _, [], [], HS0.out.below hsz HR.out.2.1, Cs.nil _ _, Wl.nil, HBC.out.trans (below_to HR.out.2.1 hsz), Cov.nil _ _, fun x h => (by cases h), Nat.le_refl _, Nat.le_refl _, ⟨?_, fun g hg => HS0.out.out_free (HR.out.1.lt g hg).1⟩, ⟨World.ownsRow_nil _ _ _ _, fun g h => (by cases h)⟩, fun g _ h => by cases h⟩
            have h1 := ownsRow_base HR.out.1 hsz
            rw [← show gi = (gsOf n pr).length from HR.out.2.2]
            exact h1
          have HGI : Hid (gi = (gsOf n pr).length) := HR.out.2.2
          replace hvg := Lib.hid hvg
          clear HR
          go_wp2_with fail
          go_loopg [13, 58] L (fun gk v13 v58 wx => ∃ (i : Nat) (sa : Option Addr) (sn sc : Nat), v13 = .slice sa sn sc ∧ v58 = .int .i64 (i : Int) ∧ i ≤ L ∧ L ≤ i + gk ∧ sn ≤ i ∧ Hid (F2 w n ls pr S M gv gl gr vg i (.slice sa sn sc) wx))
          case atStart => exact ⟨0, none, 0, 0, rfl, rfl, Nat.zero_le _, by omega, Nat.le_refl _, HF20.out⟩
          case round =>
            clear HF20
            obtain ⟨i, sa, sn, sc, rfl, rfl, hiL, hfi, hsn, HI⟩ := hrel
            by_cases hi : i < L
            · have hi1 : (i : Int) < (L : Int) := by omega
              obtain ⟨b, off, hal, hbl, hcel⟩ := HCELL.out i hi
              have hil : i < ls.length := by rw [show ls.length = L from HLL.out]; exact hi
              obtain ⟨c, hc⟩ : ∃ c, ls[i]? = some c := ⟨_, List.getElem?_eq_getElem hil⟩
              obtain ⟨role, vc, cv, wo, wl, cs, sg, hsol, hcs, hwl, hbw, hcov, hent, hcl1, hsl1, hrg, hrs, hne⟩ := HI.out
              have c1 := cell_tr hbw hcel
              obtain ⟨ac, cc, hfi', hcc, hia⟩ := (HROWS.out i c hc).below hbw
              have hiv : IntsV wr (f i) c := ⟨ac, cc, hfi', hcc, hia⟩
              have hcm := List.mem_of_getElem? hc
              have HOWN := Lib.hid (own_c hiv (by have h1 : c.length ≤ 17592186044416 := HLB.out c hcm; omega))
              subst hal
              rw [hfi'] at c1 HOWN
              have htk : ls.take (i + 1) = ls.take i ++ [c] := by rw [List.take_succ_eq_append_getElem hil, (List.getElem?_eq_some_iff.1 hc).2]
              have HTK := Lib.hid htk
              have hokc : ∀ x ∈ c, Lok n x := HOK.out.1 c hcm
              have HOKC := Lib.hid hokc
              have hokn : ∀ x ∈ norm c, Lok n x := fun x hx => hokc x (mem_norm.1 hx)
              have HOKN := Lib.hid hokn
              have HSOL := Lib.hid hsol
              have HCS := Lib.hid hcs
              have HWL := Lib.hid hwl
              have HBW2 := Lib.hid hbw
              have HCOV := Lib.hid hcov
              have HENT := Lib.hid hent
              have HRG := Lib.hid hrg
              have HRS := Lib.hid hrs
              have HNE := Lib.hid hne
              have HCM := Lib.hid hcm
              obtain ⟨cn, hcn⟩ : ∃ cn, c.length = cn := ⟨_, rfl⟩
              rw [hcn] at c1 HOWN
              have hcsb : cs.length ≤ 4398046511104 := by omega
              have hclI := Lib.hid hcl1
              have hslI := Lib.hid hsl1
              clear hcel hil hc hfi' hcc hia hiv hcn hbl hsol hcs hwl hbw hcov hent hrg hrs hne hcm htk hokc hokn HI hcl1 hsl1
              by_cases ht : Taut (norm c)
              · have hany : (norm c).any (bothB (norm c)) = true := (taut_iff hn HOKC.out).2 ht
                rw [hany] at HOWN
                have HT := Lib.hid ht
                clear hany ht
                go_wp2_with fail
                refine HOWN.out.mono ?_
                rintro e w4 ⟨v4, rfl, ho4⟩
                have HN : Hid (F2 w n ls pr S M gv gl gr vg (i + 1) (.slice sa sn sc) w4) :=
                  ⟨role, vc, cv, wo, wl, cs, sg, HSOL.out.below HBW2.out.size ho4.2, HCS.out, HWL.out, HBW2.out.trans (below_to ho4.2 HBW2.out.size), by rw [HTK.out]; exact HCOV.out.snoc (fun _ h => h) (fun _ h => h) (.inl HT.out), HENT.out, Nat.le_succ_of_le hclI.out, Nat.le_succ_of_le hslI.out, HRG.out.below ho4.2, HRS.out.below ho4.2, HNE.out⟩
                clear ho4
                go_wp2_with fail
                go_roundg (gk - 1)
                case measure => omega
                case rel => exact ⟨i + 1, sa, sn, sc, rfl, by go_num, by omega, by omega, by omega, HN.out⟩
              · have hany : (norm c).any (bothB (norm c)) = false := by
                  cases h : (norm c).any (bothB (norm c)) with
                  | false => rfl
                  | true => exact absurd ((taut_iff hn HOKC.out).1 h) ht
                rw [hany] at HOWN
                have HNT := Lib.hid ht
                clear hany ht
                go_wp2_with fail
                refine HOWN.out.mono ?_
                rintro e w4 ⟨v4, rfl, ho4⟩
                obtain ⟨oa, oc, hv4⟩ := ownsRow_slice ho4.1
                subst hv4
                obtain ⟨on, hon⟩ : ∃ on, (norm c).length = on := ⟨_, rfl⟩
                have HO4 : Hid (w4.ownsRow wr.heap.size 3 1 (.slice oa on oc) on (intsI (norm c)) ∧ Below wr.heap.size wr w4) := by
                  have h1 := ho4
                  unfold OwnI at h1
                  rw [hon] at h1
                  exact h1
                rw [hon]
                have HON := Lib.hid hon
                clear ho4 hon
                by_cases h0 : on = 0
                · subst h0
                  have HF : Hid (∀ W, Below w4.heap.size w4 W → Q (.returned (.tuple #[.slice none 0 0, .bool false, .int .i64 0])) W) := fun W hW => by
                    rw [← hQ.out]
                    refine ⟨HBW2.out.trans (below_to (HO4.out.2.trans (below_to hW HO4.out.2.size)) HBW2.out.size), .inr ⟨rfl, fun v hv => ?_⟩⟩
                    obtain ⟨x, hx, _⟩ := hv c HCM.out
                    have h1 := mem_norm.2 hx
                    rw [List.eq_nil_of_length_eq_zero HON.out] at h1
                    cases h1
                  go_wp2_with fail
                  dsimp only [Exit.jump, Exit.noGoto, Exit.inBlock, Exit.then]
                  exact bodyPost_ret (v := .tuple #[.slice none 0 0, .bool false, .int .i64 0]) (by simp [results, Try.results14, go_sem]) rfl (HF.out _ (Below.refl _ _))
                · have e0 : ((on : Int) == 0) = false := by simp; omega
                  by_cases h1 : on = 1
                  · subst h1
                    obtain ⟨x, hx⟩ := List.length_eq_one_iff.1 HON.out
                    have HX := Lib.hid hx
                    obtain ⟨go, oc', hoe, _⟩ := (ownsRow_form HO4.out.1).resolve_left (fun h => by have := h.2; omega)
                    obtain ⟨hoa, hoc⟩ : oa = some ⟨go, 0, none⟩ ∧ oc = oc' := by injection hoe with a1 _ a3; exact ⟨a1, a3⟩
                    subst hoa
                    have cx : w4.cell? ⟨go, 0, none⟩ = some (.int .i64 x) := ownsRow_cell HO4.out.1 (by rw [hx]; rfl)
                    obtain ⟨WA, hWA⟩ : ∃ WA, w4.alloc (.cells #[.int .i64 x] 3) = WA := ⟨_, rfl⟩
                    have HWA : Hid (Below wr.heap.size wr WA ∧ BoxN WA w4.heap.size [.int .i64 x] 3 ∧ RowF WA w.heap.size role (.slice sa sn sc) sg ∧ w.heap.size ≤ WA.heap.size) := by
                      rw [← hWA]
                      have hb := HO4.out.2.trans (below_to (below1 w4 (.cells #[.int .i64 x] 3)) HO4.out.2.size)
                      exact ⟨hb, boxN_alloc _ _ _, HRS.out.below hb, Nat.le_trans HBW2.out.size hb.size⟩
                    have hsl : sn = sg.length := by
                      rcases HRS.out.1.2 with ⟨e, e2⟩ | ⟨g, cap, cur, e, _⟩
                      · injection e with _ e3 _; omega
                      · injection e with _ e3 _
                    have hsnb : sn ≤ 2199023255552 := by omega
                    have HSLN := Lib.hid hsl
                    clear hx hoe hoc hsl
                    have hrow : WA.ownsRow w.heap.size 3 1 (.slice sa sn sc) sn (intsI sg) := by
                      have h2 := HWA.out.2.2.1.1
                      rw [← HSLN.out] at h2
                      exact h2
                    replace hrow := Lib.hid hrow
                    go_wp2_with (at_builtin; refine wpList_append_lies _ rfl (.tmp 81) (.tmp 85) 24 rfl w.heap.size 3 i3 (.int .i64 0) 1 8 Try.underlying24 hi3 hz30 hz31 hz32 rfl (by decide) (.slice sa sn sc) sn (intsI sg) rfl hrow.out ⟨w4.heap.size, 0, none⟩ 1 1 [.int .i64 x] rfl rfl (World.news_of_block (cs := #[.int .i64 x]) (t := 3) (fr := (0, 0)) HWA.out.2.1) (by simp [Value.oneCell']) (by omega) (by unfold maxLen; omega) (by omega) HWA.out.2.2.2 WA.heap.size rfl ?_; intro g9 cap9 w9 hown9 hgrow9 hat9 hlt9)
                    have HN : Hid (F2 w n ls pr S M gv gl gr vg (i + 1) (.slice (some ⟨g9, 0, none⟩) (sn + 1) cap9) w9) := by
                      obtain ⟨r1, r2, r3, r4, r5⟩ := HSOL.out.free_app HBW2.out.size HRS.out HRG.out HNE.out HWA.out.1 (by rw [← HSLN.out]) hown9 hgrow9 hat9
                      refine ⟨role, vc, cv, wo, wl, cs, sg ++ [x], r1, HCS.out, HWL.out, HBW2.out.trans r5, by rw [HTK.out]; exact HCOV.out.snoc (fun _ h => h) (fun _ h => List.mem_append_left _ h) (.inr (.inl ⟨x, HX.out, by simp⟩)), fun y hy => ?_, Nat.le_succ_of_le hclI.out, ?_, r3, r2, r4⟩
                      · rcases List.mem_append.1 hy with hy | hy
                        · exact HENT.out y hy
                        · rw [List.mem_singleton.1 hy]
                          refine ⟨HOKN.out x (by rw [HX.out]; simp), fun v hv => ?_⟩
                          have h3 := holds_norm.2 (hv c HCM.out)
                          rw [HX.out] at h3
                          exact h3
                      · rw [List.length_append, List.length_singleton]
                        have h3 : sg.length ≤ i := hslI.out
                        omega
                    clear hown9 hgrow9 hat9 hlt9 cx
                    go_roundg (gk - 1)
                    case measure => omega
                    case rel => exact ⟨i + 1, some ⟨g9, 0, none⟩, sn + 1, cap9, rfl, by go_num, by omega, by omega, by omega, HN.out⟩
                  · have e1 : ((on : Int) == 1) = false := by simp; omega
                    obtain ⟨role1, hs1, hr1, hf1⟩ := HSOL.out.adding HO4.out.2 HBW2.out.size HO4.out.1 (by omega)
                    have HADD := Lib.hid (add_c hs1 (Nat.le_trans HBW2.out.size HO4.out.2.size) (by omega) (vn := .slice oa on oc) (c := norm c) (by rw [show (norm c).length = on from HON.out]; exact ownsRow_base HO4.out.1 HBW2.out.size) hr1 (by rw [show (norm c).length = on from HON.out]; omega) HOKN.out (norm_nodup c) hcsb (fun x hx => Nat.le_trans (HWL.out.len x) hcsb))
                    have HF1 := Lib.hid hf1
                    have HFREE : Hid (∀ b, b < w.heap.size → role1 b = .free) := fun b hb => by
                      by_cases h : role1 b = .free
                      · exact h
                      · have := hs1.lo b h
                        omega
                    clear hs1 hr1 hf1
                    go_wp2_with (go_at_call 30; refine HADD.out.mono ?_; intro e w5 hpost; obtain ⟨rfl, role5, vc5, cv5, wo5, hst5, hsol5⟩ := hpost; have HST5 := Lib.hid hst5; have HSOL5 := Lib.hid hsol5; clear hst5 hsol5)
                    have HN : Hid (F2 w n ls pr S M gv gl gr vg (i + 1) (.slice sa sn sc) w5) := by
                      have hmv : Moved role1 w4 role5 w5 := HST5.out.mono (by rintro r (e | e | e | e | ⟨l, e⟩) <;> rw [e] <;> simp)
                      have hent : Ent ls (norm c) := fun v hv => holds_norm.2 (hv c HCM.out)
                      refine ⟨role5, vc5, cv5, wo5, _, _, sg, HSOL5.out, HCS.out.more hent (by rw [show (norm c).length = on from HON.out]; omega) HOKN.out (norm_one HOKC.out HNT.out), HWL.out.more (by rw [show (norm c).length = on from HON.out]; omega), ?_, by rw [HTK.out]; exact HCOV.out.snoc (fun _ h => List.mem_append_left _ h) (fun _ h => h) (.inr (.inr ⟨norm c, by simp, fun _ h => h⟩)), HENT.out, ?_, Nat.le_succ_of_le hslI.out, (HF1.out _ _ HRG.out).moved hmv, (HF1.out _ _ HRS.out).moved hmv, HNE.out⟩
                      · exact (hmv.out (HBW2.out.trans (below_to HO4.out.2 HBW2.out.size)) (Nat.le_trans HBW2.out.size HO4.out.2.size) HFREE.out).1
                      · rw [List.length_append, List.length_singleton]
                        have h3 : cs.length ≤ i := hclI.out
                        omega
                    go_roundg (gk - 1)
                    case measure => omega
                    case rel => exact ⟨i + 1, sa, sn, sc, rfl, by go_num, by omega, by omega, by omega, HN.out⟩
            · have hiE : i = L := by omega
              obtain ⟨role, vc, cv, wo, wl, cs, sg, hsol, hcs, hwl, hbw, hcov, hent, hcl1, hsl1, hrg, hrs, hne⟩ := HI.out
              have hsl : sn = sg.length := by
                rcases hrs.1.2 with ⟨e, e2⟩ | ⟨g, cap, cur, e, _⟩
                · injection e with _ e3 _; omega
                · injection e with _ e3 _
              have HRS := Lib.hid hrs
              have HENT := Lib.hid hent
              have HF30 : Hid (F3 w n ls pr S M gv gl gr vg (.slice sa sn sc) sg 0 wr) := by
                refine ⟨role, vc, _, cv, wo, wl, cs, [], hsol, Tr.nil _ _ _ _, hcs, hwl, hbw, ?_, fun x hx => (by simp at hx), hent, by rw [show ls.length = L from HLL.out, ← hiE]; exact hcl1, hrg, hrs⟩
                have h1 := hcov
                rw [List.take_of_length_le (by rw [show ls.length = L from HLL.out]; omega)] at h1
                exact h1
              have HSLN := Lib.hid hsl
              have HIE := Lib.hid hiE
              have hsnb : sn ≤ 2199023255552 := by omega
              clear hsol hcs hwl hbw hcov hent hcl1 hsl1 hrg hrs hne hsl hiE HI
              go_wp2_with fail
              go_loopg [90] sn (fun gk v90 wx => ∃ i : Nat, v90 = .int .i64 (i : Int) ∧ i ≤ sn ∧ sn ≤ i + gk ∧ Hid (F3 w n ls pr S M gv gl gr vg (.slice sa sn sc) sg i wx))
              case atStart => exact ⟨0, rfl, Nat.zero_le _, by omega, HF30.out⟩
              case round =>
                clear HF30
                obtain ⟨i, rfl, hiN, hfi, HI⟩ := hrel
                obtain ⟨role, vc, vt, cv, wo, wl, cs, tr, hsol, htr, hcs, hwl, hbw, hcov, hsgl, hent, hclb, hrg, hrs⟩ := HI.out
                have HSOL := Lib.hid hsol
                have HTR := Lib.hid htr
                have HCS := Lib.hid hcs
                have HWL := Lib.hid hwl
                have HBW2 := Lib.hid hbw
                have HCOV := Lib.hid hcov
                have HSGL := Lib.hid hsgl
                have HCLB := Lib.hid hclb
                have HRG := Lib.hid hrg
                have HRS3 := Lib.hid hrs
                by_cases hi : i < sn
                · have hi1 : (i : Int) < (sn : Int) := by omega
                  have hil : i < sg.length := by rw [← show sn = sg.length from HSLN.out]; exact hi
                  obtain ⟨x, hx⟩ : ∃ x, sg[i] = x := ⟨_, rfl⟩
                  have hxm : x ∈ sg := by rw [← hx]; exact List.getElem_mem hil
                  have HX : Hid (sg.take (i + 1) = sg.take i ++ [x]) := by rw [← hx]; exact List.take_succ_eq_append_getElem hil
                  obtain ⟨hlx, hex⟩ := hent x hxm
                  obtain ⟨gs, sc', hse, _⟩ := (ownsRow_form hrs.1).resolve_left (fun h => by have := h.2; omega)
                  have hse2 : sa = some ⟨gs, 0, none⟩ := by injection hse with a1 _ _
                  have c0 : wr.cell? ⟨gs, i, none⟩ = some (.int .i64 x) := by
                    have h1 := hrs.1
                    rw [hse2] at h1
                    rw [show sn = sg.length from HSLN.out] at h1
                    exact ownsRow_cell h1 (by unfold intsI; rw [List.getElem?_map, List.getElem?_eq_getElem hil, hx]; rfl)
                  have hscn : sn ≤ sc := by
                    rcases ownsRow_form hrs.1 with ⟨e, _⟩ | ⟨g, cap, e, h2, _⟩
                    · rw [hse2] at e; cases e
                    · injection e with _ _ e3
                      have := HSLN.out
                      omega
                  have HIS : Hid (∀ W q, W = wr.drewN q → Calls Try.prog 31 #[.pointer (some ⟨S, 0, none⟩), .int .i64 x] W fun e w' => e = .returned (.int .i64 (isV tr x)) ∧ ∃ q, w' = wr.drewN q) := fun W q hW => by
                    subst hW
                    refine (is_c (hsol.below hbw.size (below_dr (Below.refl _ _) q)) hlx (by omega)).mono fun e w' h => ⟨h.1, ?_⟩
                    obtain ⟨q2, h2⟩ := h.2
                    exact ⟨q + q2, by rw [h2, World.drewN_drewN]⟩
                  have hcase := isV_cases htr hlx
                  have HLX := Lib.hid hlx
                  have HEX := Lib.hid hex
                  have hl0 : ∀ (q : Nat) (e : En), tr[q]? = some e → e.lev = 0 := fun q e he => htr.lev q e he
                  have HL0 := Lib.hid hl0
                  subst hse2
                  clear hsol htr hcs hwl hbw hcov hsgl hent hclb hrg hrs HI hil hx hxm hlx hex hse hl0
                  rcases hcase with ⟨hv, hat⟩ | ⟨hv, hat⟩ | ⟨hv, hop⟩
                  · rw [hv] at HIS
                    have HN : Hid (∀ q, F3 w n ls pr S M gv gl gr vg (.slice (some ⟨gs, 0, none⟩) sn sc) sg (i + 1) (wr.drewN q)) := fun q => by
                      have hb : Below wr.heap.size wr (wr.drewN q) := below_dr (Below.refl _ _) q
                      refine ⟨role, vc, vt, cv, wo, wl, cs, tr, HSOL.out.below HBW2.out.size hb, HTR.out, HCS.out, HWL.out, HBW2.out.trans (below_to hb HBW2.out.size), HCOV.out, fun y hy => ?_, HENT.out, HCLB.out, HRG.out.below hb, HRS3.out.below hb⟩
                      rw [HX.out] at hy
                      rcases List.mem_append.1 hy with hy | hy
                      · exact HSGL.out y hy
                      · rw [List.mem_singleton.1 hy]
                        obtain ⟨q', e, h1, h2⟩ := hat
                        exact ⟨q', e, h1, h2, HL0.out q' e h1⟩
                    clear hv hat
                    go_wp2_with fail
                    refine (HIS.out wr 0 rfl).mono ?_
                    rintro e w5 ⟨rfl, q5, rfl⟩
                    go_wp2_with fail
                    refine (HIS.out _ q5 rfl).mono ?_
                    rintro e w6 ⟨rfl, q6, rfl⟩
                    go_wp2_with fail
                    go_roundg (gk - 1)
                    case measure => omega
                    case rel => exact ⟨i + 1, by go_num, by omega, by omega, HN.out q6⟩
                  · rw [hv] at HIS
                    have HF : Hid (∀ q, Q (.returned (.tuple #[.slice none 0 0, .bool false, .int .i64 0])) (wr.drewN q)) := fun q => by
                      rw [← hQ.out]
                      have hb : Below wr.heap.size wr (wr.drewN q) := below_dr (Below.refl _ _) q
                      refine ⟨HBW2.out.trans (below_to hb HBW2.out.size), .inr ⟨rfl, fun v hv2 => ?_⟩⟩
                      obtain ⟨l, hl, hb2⟩ := HEX.out v hv2
                      rw [List.mem_singleton.1 hl] at hb2
                      obtain ⟨q', e, h1, h2⟩ := hat
                      have h3 := follows0 HTR.out HCS.out hv2 h1 (HL0.out q' e h1)
                      rw [h2, litB_neg v HLX.out.1, hb2] at h3
                      cases h3
                    clear hv hat
                    go_wp2_with fail
                    refine (HIS.out wr 0 rfl).mono ?_
                    rintro e w5 ⟨rfl, q5, rfl⟩
                    go_wp2_with fail
                    dsimp only [Exit.jump, Exit.noGoto, Exit.inBlock, Exit.then]
                    exact bodyPost_ret (v := .tuple #[.slice none 0 0, .bool false, .int .i64 0]) (by simp [results, Try.results14, go_sem]) rfl (HF.out q5)
                  · rw [hv] at HIS
                    have HOP := Lib.hid hop
                    clear hv hop
                    go_wp2_with fail
                    refine (HIS.out wr 0 rfl).mono ?_
                    rintro e w5 ⟨rfl, q5, rfl⟩
                    go_wp2_with fail
                    refine (HIS.out _ q5 rfl).mono ?_
                    rintro e w6 ⟨rfl, q6, rfl⟩
                    have hb : Below wr.heap.size wr (wr.drewN q6) := below_dr (Below.refl _ _) q6
                    have htl := tr_len HTR.out
                    have HSET := Lib.hid (set_c (HSOL.out.below HBW2.out.size hb) HBW2.out.size (why := -1) HLX.out (by omega) HOP.out (by simp) (by omega))
                    have HB6 := Lib.hid hb
                    clear htl hb
                    go_wp2_with fail
                    refine HSET.out.mono ?_
                    intro e w7 hpost
                    obtain ⟨rfl, role7, vt7, hst7, hsol7⟩ := hpost
                    have HN : Hid (F3 w n ls pr S M gv gl gr vg (.slice (some ⟨gs, 0, none⟩) sn sc) sg (i + 1) w7) := by
                      have hmv : Moved role (wr.drewN q6) role7 w7 := hst7.mono (by rintro r (e | e | e | e | e) <;> rw [e] <;> simp)
                      have hout := hmv.out (HBW2.out.trans (below_to HB6.out HBW2.out.size)) HBW2.out.size (fun b hb => by
                        by_cases h : role b = .free
                        · exact h
                        · have := HSOL.out.lo b h
                          omega)
                      have hask := HTR.out.asked HLX.out HOP.out (why := -1) (.inl ⟨by decide, rfl, HEX.out⟩)
                      refine ⟨role7, vc, vt7, cv, wo, wl, cs, _, hsol7, hask, HCS.out, HWL.out, hout.1, HCOV.out, fun y hy => ?_, HENT.out, HCLB.out, (HRG.out.below HB6.out).moved hmv, (HRS3.out.below HB6.out).moved hmv⟩
                      rw [HX.out] at hy
                      rcases List.mem_append.1 hy with hy | hy
                      · exact (Sgl.pre (sg := sg.take i) HSGL.out (List.prefix_append _ _)) y hy
                      · rw [List.mem_singleton.1 hy]
                        exact ⟨tr.length, ⟨x, 0, -1⟩, by simp, rfl, rfl⟩
                    clear hst7 hsol7
                    go_wp2_with fail
                    go_roundg (gk - 1)
                    case measure => omega
                    case rel => exact ⟨i + 1, by go_num, by omega, by omega, HN.out⟩
                · have hiE2 : i = sn := by omega
                  have HSV : Hid (SInv w n ls pr S M gv gl gr vg 0 ((2 ^ n - trV n tr []) * (n + 2) + (n + 1 - tr.length)) wr) := by
                    refine ⟨role, vc, vt, .slice none 0 0, 0, cv, wo, wl, cs, tr, [], sg, HSOL.out, HTR.out, HCS.out, Wat.zero _ _, fun m h => (by cases h), Nat.zero_le _, HWL.out, HBW2.out, HCOV.out, ?_, ?_, fun i g h => absurd h (Nat.not_lt_zero _), HRG.out, Nat.le_refl _⟩
                    · have h1 := HSGL.out
                      rw [List.take_of_length_le (by rw [← show sn = sg.length from HSLN.out]; omega)] at h1
                      exact h1
                    · rcases HCAP.out with h | h
                      · exact .inl ⟨h, Nat.le_trans HCLB.out (Nat.le_add_right _ _)⟩
                      · exact .inr ⟨h, rfl, HCLB.out, by have h1 : ls.length ≤ 2199023255552 := HLEN.out; omega⟩
                  replace hiE2 := Lib.hid hiE2
                  clear hsol htr hcs hwl hbw hcov hsgl hent hclb hrg hrs HI
                  go_wp2_with fail
                  go_step3
                  have HSV2 : Hid (SInv w n ls pr S M gv gl gr (.slice ga gi gc) 0 ((2 ^ n - trV n tr []) * (n + 2) + (n + 1 - tr.length)) wr) := by
                    rw [show Value.slice ga gi gc = vg from hvg.out]
                    exact HSV.out
                  go_step
                  go_step
                  refine HMORE.out ((2 ^ n - trV n tr []) * (n + 2) + (n + 1 - tr.length)) _ _ ?_
                  exact ⟨rfl, rfl, rfl, S, M, gv, gl, gr, ga, gi, gc, 0, rfl, rfl, rfl, HGI.out, Nat.zero_le _, HSV2⟩
end Go.Proofs.Ytkeagjphddcjeaa
