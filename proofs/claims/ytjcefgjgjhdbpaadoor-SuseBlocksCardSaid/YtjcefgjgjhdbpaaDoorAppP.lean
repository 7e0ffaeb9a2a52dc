/-
  Packages behind packages, in a row of our own. Helper text; the conditions are those typed.
-/
import Derived.Test.YtjcefgjgjhdbpaaDoorRdrB
import Derived.Test.YtjcefgjgjhdbpaaDoorPackA
namespace Go.Proofs.YtjcefgjgjhdbpaaDoor
set_option linter.unusedVariables false
set_option linter.unusedSimpArgs false
open Go.RowKit Go.Maps

theorem run_app_none {P : Program} {w : World} (base : Nat) (t ty e : TypeId) (i : TypeInfo) (size : Nat) (ht : P.underlying t = some (.slice e)) (hi : P.info? e = some i)
    (v : Value) (n : Nat) (xs : List Value) (hown : w.ownsRow base e size v n xs) (c : Nat) : (Builtin.append_ #[t, t] ty #[v, .slice none 0 c]).run P w = .ok v w := by
  rcases hown.2 with ⟨rfl, rfl⟩ | ⟨g, cap, cur, rfl, _, _, hnc, _⟩
  · simp [Builtin.append_, run_underlying ht, sizeOf, typeInfo, hi, Builtin.lenOf, Builtin.firstCells]
  · simp [Builtin.append_, run_underlying ht, sizeOf, typeInfo, hi, Builtin.lenOf, Builtin.firstCells, hnc, storeCells]
/-- Packages in a row that lies from B on; what they hold lies below B. -/
def MadeP (B : Nat) (w : World) (v : Value) (ls : List PkgT) : Prop :=
  ∃ xs, w.ownsRow B 34 12 v ls.length xs ∧ ∀ j (h : j < ls.length), ∃ u uf, PkgV w (· < B) ls[j] u uf ∧ ∀ r x, (pkgCells ls[j].name ls[j].evr ls[j].arch ls[j].vendor u uf)[r]? = some x → xs[j * 12 + r]? = some x
theorem MadeP.empty {B : Nat} {w : World} {b : Nat} (h : BoxN w b [] 34) (hb : B ≤ b) : MadeP B w (.slice (some ⟨b, 0, none⟩) 0 0) [] :=
  ⟨[], ⟨rfl, .inr ⟨b, 0, #[], rfl, hb, h, Nat.le_refl _, by unfold maxLen; omega, rfl, rfl⟩⟩, fun j h => absurd h (Nat.not_lt_zero _)⟩
theorem MadeP.pkgs {B : Nat} {w : World} {v : Value} {ls : List PkgT} (h : MadeP B w v ls) (hB : B ≤ w.heap.size) (hn : ls.length ≤ 1000000) : PkgsV w (· < w.heap.size) ls v := by
  obtain ⟨xs, hr, hx⟩ := h
  rcases hr.2 with ⟨e, h0⟩ | ⟨g, cap, cur, e, hg, hat, hcap, _, hsz, htake⟩
  · exact ⟨none, 0, by rw [e, h0], by omega, fun hne => absurd (List.length_eq_zero_iff.1 h0) hne⟩
  · refine ⟨_, cap, e, by omega, fun _ => ⟨g, 0, rfl, lt_of_cells hat, fun i hi => ?_⟩⟩
    obtain ⟨v, vf, h1, h2⟩ := hx i hi
    refine ⟨v, vf, h1.keep (fun b hb => Nat.lt_of_lt_of_le hb hB) (fun _ _ _ => rfl), fun r u hu => ?_⟩
    refine cell_of hat ?_
    have h5 := h2 r u hu
    have hlt := (List.getElem?_eq_some_iff.1 h5).1
    rw [hr.1] at hlt
    rw [← htake, List.getElem?_take_of_lt hlt] at h5
    rw [Nat.zero_add, ← Array.getElem?_toList]
    exact h5
theorem pkg_len (nm ev ar ve : ByteArray) (v : Fin 7 → Value) (vf : Value) : (pkgCells nm ev ar ve v vf).length = 12 := rfl
theorem pkg_one {w : World} {S : Nat → Prop} {p : PkgT} {v : Fin 7 → Value} {vf : Value} (h : PkgV w S p v vf) : ∀ u ∈ pkgCells p.name p.evr p.arch p.vendor v vf, u.oneCell' = true := by
  obtain ⟨a, c, rfl⟩ := h.slices
  obtain ⟨af, cf, hf, _⟩ := h.files
  subst hf
  intro u hu
  simp only [pkgCells, List.mem_cons, List.not_mem_nil, or_false] at hu
  rcases hu with rfl | rfl | rfl | rfl | rfl | rfl | rfl | rfl | rfl | rfl | rfl | rfl <;> rfl
theorem run_appP {B : Nat} {w : World} (ty : TypeId) {v y : Value} {ls ks : List PkgT} (h : MadeP B w v ls) (hy : PkgsV w (· < B) ks y) (hlim : (ls.length + ks.length) * 256 ≤ 140737488355328) (hB : B ≤ w.heap.size) :
    ∃ v' w', (Builtin.append_ #[23, 23] ty #[v, y]).run Tryd.prog w = .ok v' w' ∧ MadeP B w' v' (ls ++ ks) ∧ Below B w w' := by
  obtain ⟨i0, hi, hz0, hz1, hz2⟩ := info_parts info39
  obtain ⟨xs, hown, hrows⟩ := h
  obtain ⟨A, c, rfl, _, hu⟩ := hy
  have hxl : xs.length = ls.length * 12 := hown.1
  rcases A with _ | ad
  · have h0 : ks = [] := by
      by_cases h0 : ks = []
      · exact h0
      · obtain ⟨b, off, e, _⟩ := hu h0
        cases e
    subst h0
    exact ⟨v, w, run_app_none B 23 ty 34 i0 12 Tryd.underlying23 hi v _ _ hown c, by rw [List.append_nil]; exact ⟨xs, hown, hrows⟩, Below.refl _ _⟩
  · have hex : ∀ j, ∃ cs : List Value, cs.length = 12 ∧ (∀ hj : j < ks.length, ∃ u uf, PkgV w (· < B) ks[j] u uf ∧ cs = pkgCells ks[j].name ks[j].evr ks[j].arch ks[j].vendor u uf ∧ ∀ r x, cs[r]? = some x → w.cell? (ad.add (j * 12 + r)) = some x) := by
      intro j
      by_cases hj : j < ks.length
      · obtain ⟨b, off, e, _, hc⟩ := hu (by intro e; rw [e] at hj; exact absurd hj (Nat.not_lt_zero _))
        cases e
        obtain ⟨u, uf, h1, h2⟩ := hc j hj
        refine ⟨pkgCells ks[j].name ks[j].evr ks[j].arch ks[j].vendor u uf, rfl, fun _ => ⟨u, uf, h1, rfl, fun r x hx => ?_⟩⟩
        rw [addr_add, ← Nat.add_assoc]
        exact h2 r x hx
      · exact ⟨List.replicate 12 undef, rfl, fun h => absurd h hj⟩
    obtain ⟨f, hf⟩ := Classical.axiomOfChoice hex
    have hfl : ∀ j, (f j).length = 12 := fun j => (hf j).1
    have hfs := fun j => (hf j).2
    clear hf hex
    have hlen : ((List.range ks.length).flatMap f).length = ks.length * 12 := by
      rw [flatL_len f hfl, List.length_range]
    have hat : ∀ j r, j < ks.length → r < 12 → ((List.range ks.length).flatMap f)[j * 12 + r]? = (f j)[r]? := fun j r hj hr => by
      have h1 := flatL_at f hfl (List.range ks.length) j r (by simpa using hj) hr
      rw [h1]
      simp
    have hcells : ∀ j u, ((List.range ks.length).flatMap f)[j]? = some u → w.cell? (ad.add j) = some u := by
      intro j u hj
      have hjl := (List.getElem?_eq_some_iff.1 hj).1
      rw [hlen] at hjl
      have e1 : j / 12 * 12 + j % 12 = j := by omega
      have e2 : j / 12 < ks.length := by omega
      rw [← e1] at hj ⊢
      rw [hat _ _ e2 (Nat.mod_lt _ (by decide))] at hj
      obtain ⟨_, _, _, _, h3⟩ := hfs (j / 12) e2
      exact h3 _ u hj
    obtain ⟨v', w', hr, h2, h3, _, h5⟩ := run_append_own_at (P := Tryd.prog) w B 23 ty 34 i0 _ 12 256 Tryd.underlying23 hi hz0 hz1 hz2 rfl (by decide) v ls.length _ hown ad ks.length c ((List.range ks.length).flatMap f) hlen hcells
      (by
        intro u hu
        obtain ⟨j, hj, hu⟩ := List.mem_flatMap.1 hu
        have hj := List.mem_range.1 hj
        obtain ⟨_, _, h1, h2, _⟩ := hfs j hj
        rw [h2] at hu
        exact pkg_one h1 u hu) (by unfold maxLen; omega) hlim hB
    have hbl : Below B w w' := grown_own hown hB h3
    have hkp : ∀ {p : PkgT} {u : Fin 7 → Value} {uf : Value}, PkgV w (· < B) p u uf → PkgV w' (· < B) p u uf := fun h => h.keep (fun _ hb => hb) (fun b hb _ => hbl.block b hb)
    refine ⟨v', w', hr, ⟨_, by rw [List.length_append]; exact h2, fun j hj => ?_⟩, hbl⟩
    rw [List.length_append] at hj
    by_cases hjl : j < ls.length
    · obtain ⟨u, uf, h6, h7⟩ := hrows j hjl
      rw [List.getElem_append_left hjl]
      refine ⟨u, uf, hkp h6, fun r x hx => ?_⟩
      have hr12 : r < 12 := (List.getElem?_eq_some_iff.1 hx).1
      rw [List.getElem?_append_left (by omega)]
      exact h7 r x hx
    · have hj2 : j - ls.length < ks.length := by omega
      obtain ⟨u, uf, h6, h7, _⟩ := hfs (j - ls.length) hj2
      rw [List.getElem_append_right (by omega)]
      refine ⟨u, uf, hkp h6, fun r x hx => ?_⟩
      have hr12 : r < 12 := (List.getElem?_eq_some_iff.1 hx).1
      rw [List.getElem?_append_right (by omega), hxl, show j * 12 + r - ls.length * 12 = (j - ls.length) * 12 + r by omega, hat _ _ hj2 hr12, h7]
      exact hx
theorem wpList_appP {B : Nat} {w : World} {ops : Array Oper} {rest : List Oper} {o : Oper} {a : Act} {Q : Exit → Act → World → Prop} (hgd : o.guard = none) (s x : Operand)
    (ho : o.op = .call { callee := .builtin .append, args := #[s, x], argTypes := #[23, 23] })
    {v y : Value} (hs : a.eval s = v) (hx : a.eval x = y) {ls ks : List PkgT} (hown : MadeP B w v ls) (hy : PkgsV w (· < B) ks y) (hlim : (ls.length + ks.length) * 256 ≤ 140737488355328) (hB : B ≤ w.heap.size)
    (h : ∀ v' w', MadeP B w' v' (ls ++ ks) → Below B w w' → wpList Tryd.prog ops Q rest (a.put o.dst v') w') : wpList Tryd.prog ops Q (o :: rest) a w := by
  refine wpList_plain hgd fun K hK => ?_
  obtain ⟨v', w', hr, h2, h4⟩ := run_appP o.type hown hy hlim hB
  unfold Oper.wp execOp
  simp only [ho, resolve, invoke, builtin, Sem.run_bind, Sem.run_pure, Result.andThen_ok, List.map_toArray, List.map_cons, List.map_nil, hs, hx, hr]
  exact hK _ _ (h v' w' h2 h4)
end Go.Proofs.YtjcefgjgjhdbpaaDoor
