/-
  The solver: rows of clauses, kept rows. Helper text; the conditions are those typed.
-/
import Derived.Test.YtkeagjphddcjeaaSolF
import Derived.Test.YtkeagjphddcjeaaSatBack
import Derived.Deep.LoopGhost
import Derived.Deep.Cut
import Derived.Deep.CutRange
import Derived.Deep.CutBlock
import Derived.IntWalk
namespace Go.Proofs.Ytkeagjphddcjeaa
set_option linter.unusedVariables false
set_option linter.unusedSimpArgs false
open Go.RowKit Go.Maps Sat

section
variable {w w' : World} {B : Nat} {role role' : Nat → Role} {S M gv gl gr : Nat} {vc vt vm : Value} {head n : Nat} {cv : Nat → Value} {wo : Int → Option Value} {wl : Int → List Nat} {orig : List Cl} {gs : List Int} {cs : List Cl} {tr : List En} {mk : List Nat} {T : Role → Prop}

theorem ownsRow_frozen {w : World} {B : Nat} {e : TypeId} {k g n n' cap : Nat} {xs : List Value} (h : w.ownsRow B e k (.slice (some ⟨g, 0, none⟩) n cap) n' xs) (j : Nat) : w.frozen? ⟨g, j, none⟩ = false := by
  rcases h.2 with ⟨e1, _⟩ | ⟨g', cap', cur, e1, _, hg, _⟩
  · cases e1
  · cases e1
    exact frozen_of hg
theorem KeptAt.form {w : World} {B : Nat} {role : Nat → Role} {v : Value} {xs : List Nat} (h : KeptAt w B role v xs) : ∃ a c, v = .slice a xs.length c := by
  rcases h.1 with h | ⟨a, ha, hx⟩
  · obtain ⟨a, c, h⟩ := ownsRow_slice h
    exact ⟨a, c, by rw [h, natsI_len]⟩
  · have : xs = [] := by unfold natsI at hx; simpa using hx
    exact ⟨some a, 0, by rw [ha, this]; rfl⟩
theorem clause_len (h : Cs n orig cs) {c : Cl} (hc : c ∈ cs) : c.length ≤ n := by
  have h1 := List.Nodup.length_le_of_subset (h.one c hc) (l₂ := List.range n) fun x hx => by
    obtain ⟨y, hy, rfl⟩ := List.mem_map.1 hx
    exact List.mem_range.2 (h.ok c hc y hy).lt
  simpa using h1
theorem clause_ne (h : Cs n orig cs) {a b x : Int} {t : Cl} (hc : a :: b :: t ∈ cs) (hx : x ∈ t) : x ≠ a ∧ x ≠ b := by
  have hone := h.one _ hc
  refine ⟨fun e => ?_, fun e => ?_⟩
  · subst e
    simp only [List.map_cons, List.nodup_cons, List.mem_cons, List.mem_map, not_or] at hone
    exact hone.1.2 ⟨x, hx, rfl⟩
  · subst e
    simp only [List.map_cons, List.nodup_cons, List.mem_cons, List.mem_map, not_or] at hone
    exact hone.2.1 ⟨x, hx, rfl⟩
/-- A clause's row. -/
theorem SolIn.ccell (h : SolIn w B role S M gv gl gr vc vt vm head n cv wo wl cs tr mk) {m : Nat} {c : Cl} (hc : cs[m]? = some c) {gc Z ck : Nat} (hcv : cv m = .slice (some ⟨gc, 0, none⟩) Z ck) :
    (∀ j x, c[j]? = some x → w.cell? ⟨gc, j, none⟩ = some (.int .i64 x)) ∧ ∀ j, w.frozen? ⟨gc, j, none⟩ = false := by
  have h1 := h.clause m _ hc
  have hz : Z = c.length := by
    rcases h1.2 with ⟨e, _⟩ | ⟨g, cap, cur, e, _⟩
    · rw [hcv] at e; cases e
    · rw [hcv] at e
      injection e
  rw [hcv, ← hz] at h1
  exact ⟨fun j x hx => ownsRow_cell h1 (by unfold intsI; rw [List.getElem?_map, hx]; rfl), fun j => ownsRow_frozen h1 j⟩
/-- An append whose run is known. -/
theorem wp_append_run {w w' : World} {v' : Value} {o : Oper} {a : Act} {K : Act → World → Prop} {Q : Exit → Act → World → Prop} (s x : Operand)
    (ho : o.op = .call { callee := .builtin .append, args := #[s, x], argTypes := #[24, 24] }) (hty : o.type = 24) {vs vx : Value} (hs : a.eval s = vs) (hx : a.eval x = vx)
    (hr : (Builtin.append_ #[24, 24] 24 #[vs, vx]).run Try.prog w = .ok v' w') (hK : K (a.put o.dst v') w') : o.wp Try.prog a w K Q := by
  unfold Oper.wp execOp
  simp only [ho, hty, resolve, invoke, builtin, Sem.run_bind, Sem.run_pure, Result.andThen_ok, List.map_toArray, List.map_cons, List.map_nil, hs, hx, hr]
  exact hK
theorem isV_no (h : Tr n orig gs cs tr mk) {x : Int} (hx : Lok n x) (hv : isV tr x ≠ -1) : ∀ q, ¬ At tr q (-x) := fun q ha => by
  rcases isV_cases h hx with ⟨_, q', h1⟩ | ⟨h1, _⟩ | ⟨_, h1⟩
  · exact not_both h h1 ha
  · exact hv h1
  · obtain ⟨e, he, hl⟩ := ha
    exact h1 e (List.mem_of_getElem? he) (by rw [hl, vr_neg])
/-- Two literals of a clause are written. -/
theorem SolIn.cput (h : SolIn w B role S M gv gl gr vc vt vm head n cv wo wl cs tr mk) {m : Nat} {c : Cl} (hc : cs[m]? = some c) {gc ck : Nat} (hcv : cv m = .slice (some ⟨gc, 0, none⟩) c.length ck) {i j : Nat} (hi : i < c.length) (hj : j < c.length) (x y : Int) :
    Step (fun r => r = .clause m) role w role ((w.setCell ⟨gc, i, none⟩ (.int .i64 x)).setCell ⟨gc, j, none⟩ (.int .i64 y)) ∧
      SolIn ((w.setCell ⟨gc, i, none⟩ (.int .i64 x)).setCell ⟨gc, j, none⟩ (.int .i64 y)) B role S M gv gl gr vc vt vm head n cv wo wl (cs.set m ((c.set i x).set j y)) tr mk := by
  have hr : role gc = .clause m := h.rC m gc (List.getElem?_eq_some_iff.1 hc).1 (by rw [hcv]; rfl)
  have s1 := Step.of_set h.hi gc i (.int .i64 x)
  have s2 := Step.of_set s1.inn gc j (.int .i64 y)
  have hs := (s1.trans s2).mono (T2 := fun r => r = .clause m) (by rintro r (e | e) <;> exact e.trans hr)
  refine ⟨hs, h.cset hc hs ?_⟩
  have h0 := h.clause m c hc
  rw [hcv] at h0 ⊢
  have h1 := ownsRow_set (ownsRow_set h0 hi (.int .i64 x)) hj (.int .i64 y)
  rw [intsI_set, intsI_set] at h1
  simpa using h1
/-- The kept row has grown by one. -/
theorem kept_grown {w0 : World} {role0 : Nat → Role} (hm : Moved role0 w0 role w) (h : SolIn w B role S M gv gl gr vc vt vm head n cv wo wl cs tr mk) (hB : B ≤ w.heap.size) {vk : Value} {kept : List Nat} (hk : KeptAt w B role vk kept) {w1 w2 : World} (hb : Below w.heap.size w w1) {m : Nat} {g cap : Nat} {row : Option Nat}
    (hown : w2.ownsRow B 3 1 (.slice (some ⟨g, 0, none⟩) ((natsI kept).length + 1) cap) ((natsI kept).length + 1) (natsI kept ++ [.int .i64 (m : Int)])) (hg : w1.grownBy w2 row) (hat : row = some g ∨ w1.heap.size = g) (hlt : g < w2.heap.size)
    (hrow : ∀ k, row = some k → vk.ownBlock = some k ∧ ∀ a, vk ≠ .slice (some a) 0 0) :
    ∃ role', Moved role0 w0 role' w2 ∧ SolIn w2 B role' S M gv gl gr vc vt vm head n cv wo wl cs tr mk ∧ KeptAt w2 B role' (.slice (some ⟨g, 0, none⟩) ((natsI kept).length + 1) cap) (kept ++ [m]) := by
  rw [← natsI_snoc] at hown
  obtain ⟨h1, h2⟩ := hk.more h.hi hB hb (ys := kept ++ [m]) (by simp [natsI_len]) hown hg hat hlt hrow
  exact ⟨_, hm.trans (h1.mono fun r e => by rw [e]; simp), h.keep h1 (fun _ e => e) hB, h2⟩

end
end Go.Proofs.Ytkeagjphddcjeaa
