/-
  A list of dependencies in memory of its own that may be written: the walk. Helper text; the conditions are those typed.
  A package in memory of its own that may be written. Helper text; the conditions are those typed.
-/
import Derived.Test.YtbdankpkdhhlmaaGreatSpoilB
import Derived.Shelf.Slices.Clone
namespace Go.Proofs.YtbdankpkdhhlmaaGreat
set_option linter.unusedVariables false
set_option linter.unusedSimpArgs false
open Go.RowKit Go.Maps

/-- What the round knows of the list that is its own. -/
structure OwnF (w0 w : World) (S : Nat → Prop) (n : Nat) (args : Fin n → DepT) (g : Nat) (cur : Array Value) (i : Nat) : Prop where
  below : Below w0.heap.size w0 w
  ge : w0.heap.size ≤ g
  at_ : w.heap[g]? = some (.cells cur 52 (0, 0))
  done : ∀ j : Fin n, j.val < i → ∃ cs, DepC w (New (g + 1) w) (args j) cs ∧ Chunk cur 5 j cs
  left : ∀ j : Fin n, i ≤ j.val → ∃ cs, DepC w0 S (args j) cs ∧ Chunk cur 5 j cs
theorem OwnF.grow {w0 w w' : World} {S : Nat → Prop} {n : Nat} {args : Fin n → DepT} {g : Nat} {cur : Array Value} {i : Nat} (h : OwnF w0 w S n args g cur i) (hb : Below w.heap.size w w') : OwnF w0 w' S n args g cur i :=
  ⟨below_tr h.below hb, h.ge, (hb.block g (lt_of_cells h.at_)).trans h.at_, fun j hj => by
    obtain ⟨cs, h1, h2⟩ := h.done j hj
    exact ⟨cs, h1.new hb, h2⟩, h.left⟩
theorem OwnF.set {w0 w : World} {S : Nat → Prop} {n : Nat} {args : Fin n → DepT} {g : Nat} {cur : Array Value} {i : Nat} (h : OwnF w0 w S n args g cur i) (hi : i < n) {k : Int} {nm : ByteArray} {op : Int} {ev : ByteArray} {m : Nat} {args' : Fin m → DepT} {a a' : Option Addr} {c c' : Nat}
    (hd : args ⟨i, hi⟩ = .mk k nm op ev m args') (hold : DepC w0 S (args ⟨i, hi⟩) [.int .i64 k, .string nm, .int .i64 op, .string ev, .slice a m c]) (hch : Chunk cur 5 i [.int .i64 k, .string nm, .int .i64 op, .string ev, .slice a m c])
    (hnew : DepsV w (New (g + 1) w) m args' (.slice a' m c')) : OwnF w0 (w.setCell ⟨g, i * 5 + 4, none⟩ (.slice a' m c')) S n args g (cur.setIfInBounds (i * 5 + 4) (.slice a' m c')) (i + 1) := by
  have hkeep : ∀ b, New (g + 1) w b → b < w.heap.size → (w.setCell ⟨g, i * 5 + 4, none⟩ (.slice a' m c')).heap[b]? = w.heap[b]? := fun b hb _ => set_other _ (by have := hb.1; omega)
  have hnw : ∀ b, New (g + 1) w b → New (g + 1) (w.setCell ⟨g, i * 5 + 4, none⟩ (.slice a' m c')) b := fun b hb => ⟨hb.1, hb.2.set _ _ _⟩
  have h4 : cur[i * 5 + 4]? = some (.slice a m c) := hch 4 _ rfl
  have hlt4 : i * 5 + 4 < cur.size := (Array.getElem?_eq_some_iff.1 h4).1
  refine ⟨below_sc h.below h.ge _ _, h.ge, set_cells h.at_ _, fun j hj => ?_, fun j hj => ?_⟩
  · by_cases e : j.val = i
    · obtain rfl : j = ⟨i, hi⟩ := Fin.ext e
      refine ⟨[.int .i64 k, .string nm, .int .i64 op, .string ev, .slice a' m c'], ?_, ?_⟩
      · rw [hd] at hold ⊢
        obtain ⟨v, h1, h2, h3, h4', _⟩ := depC_iff.1 hold
        exact depC_iff.2 ⟨_, rfl, h2, h3, h4', hnew.keep hnw hkeep⟩
      · intro r u hr
        show (cur.setIfInBounds (i * 5 + 4) (.slice a' m c'))[i * 5 + r]? = some u
        rw [Array.getElem?_setIfInBounds]
        match r, hr with
        | 0, hr => rw [if_neg (by omega)]; exact hch 0 u hr
        | 1, hr => rw [if_neg (by omega)]; exact hch 1 u hr
        | 2, hr => rw [if_neg (by omega)]; exact hch 2 u hr
        | 3, hr => rw [if_neg (by omega)]; exact hch 3 u hr
        | 4, hr => rw [if_pos rfl, if_pos hlt4]; exact hr
        | r + 5, hr => simp at hr
    · obtain ⟨cs, h1, h2⟩ := h.done j (by omega)
      refine ⟨cs, h1.keep hnw hkeep (fun _ _ => trivial), fun r u hr => ?_⟩
      have hr5 : r < 5 := by
        have := (List.getElem?_eq_some_iff.1 hr).1
        rwa [h1.len] at this
      rw [Array.getElem?_setIfInBounds, if_neg (by omega)]
      exact h2 r u hr
  · obtain ⟨cs, h1, h2⟩ := h.left j (by omega)
    refine ⟨cs, h1, fun r u hr => ?_⟩
    have hr5 : r < 5 := by
      have := (List.getElem?_eq_some_iff.1 hr).1
      rwa [h1.len] at this
    rw [Array.getElem?_setIfInBounds, if_neg (by omega)]
    exact h2 r u hr

set_option maxHeartbeats 2000000 in
set_option maxRecDepth 100000 in
/-- pool.own. -/
theorem ownF_c0 (n : Nat) (args : Fin n → DepT) (ih : ∀ i : Fin n, match args i with
      | .mk k nm op ev m args' => ∀ (a : Option Addr) (c : Nat) (S : Nat → Prop) (w : World), DepsV w S m args' (.slice a m c) → Calls Tryz.prog 71 #[.slice a m c] w fun e w' => (∃ a' c', e = .returned (.slice a' m c') ∧ DepsV w' (New w.heap.size w') m args' (.slice a' m c')) ∧ Below w.heap.size w w') :
    ∀ (a : Option Addr) (c : Nat) (S : Nat → Prop) (w : World), DepsV w S n args (.slice a n c) →
    Calls Tryz.prog 71 #[.slice a n c] w fun e w' => (∃ a' c', e = .returned (.slice a' n c') ∧ DepsV w' (New w.heap.size w') n args (.slice a' n c')) ∧ Below w.heap.size w w' := by
  intro a c S w h
  have hn : n * 72 ≤ 140737488355328 := by
    obtain ⟨_, _, _, h1, _⟩ := h
    exact h1
  have HC := Lib.hid (cloneD_c n args a c S w h)
  have IH := Lib.hid ih
  clear h ih
  go_enter Tryz.func71, Tryz.ntmps71
  go_wp2_with fail
  refine HC.out.mono ?_
  rintro e w1 ⟨⟨a1, c1, rfl, hg⟩, hb1⟩
  clear HC
  by_cases h0 : n = 0
  · subst h0
    replace hb1 := Lib.hid hb1
    clear hg
    go_wp2_with fail
    go_loopw [9] (fun vi wr => vi = .int .i64 0 ∧ w1 = wr) (fun _ _ => 0)
    case atStart => exact ⟨rfl, rfl⟩
    case round =>
      obtain ⟨rfl, rfl⟩ := hrel
      go_wp2_with fail
      go_ret
      exact ⟨⟨a1, c1, rfl, a1, c1, rfl, by omega, fun h => absurd rfl h⟩, hb1.out⟩
  · obtain ⟨g, cur, rfl, hge, hat, hch⟩ := hg h0
    have H0 : Hid (OwnF w w1 S n args g cur 0) := ⟨hb1, hge, hat, fun j hj => absurd hj (Nat.not_lt_zero _), fun j _ => hch j⟩
    clear hg hb1 hge hat hch
    go_wp2_with fail
    go_loopw [9] (fun vi wr => ∃ i : Nat, vi = .int .i64 i ∧ i ≤ n ∧ Hid (∃ cur, OwnF w wr S n args g cur i)) (fun vi _ => n - (intOf vi).toNat)
    case atStart => exact ⟨0, rfl, Nat.zero_le _, cur, H0.out⟩
    case round =>
      clear H0 cur
      obtain ⟨i, rfl, hin, HT⟩ := hrel
      obtain ⟨cur, hT⟩ := HT.out
      replace HT := Lib.hid hT
      clear hT
      by_cases hlt : i < n
      · have hi1 : (i : Int) < (n : Int) := by omega
        obtain ⟨cs, hd, hch⟩ := HT.out.left ⟨i, hlt⟩ (Nat.le_refl _)
        have hIH := IH.out ⟨i, hlt⟩
        obtain ⟨k', nm', op', ev', n', args', he⟩ : ∃ k' nm' op' ev' n', ∃ args' : Fin n' → DepT, args ⟨i, hlt⟩ = .mk k' nm' op' ev' n' args' := by
          cases args ⟨i, hlt⟩ with
          | mk k' nm' op' ev' n' args' => exact ⟨k', nm', op', ev', n', args', rfl⟩
        have hd0 := hd
        rw [he] at hd0 hIH
        obtain ⟨a', c', rfl, hd1⟩ := hd0
        have hdv : DepsV w S n' args' (.slice a' n' c') := ⟨a', c', rfl, hd1.2.2.2⟩
        clear hd1
        have q0 : wr.cell? ⟨g, i * 5, none⟩ = some (.int .i64 k') := cell_of HT.out.at_ (hch 0 _ rfl)
        have q1 : wr.cell? ⟨g, i * 5 + 1, none⟩ = some (.string nm') := cell_of HT.out.at_ (hch 1 _ rfl)
        have q2 : wr.cell? ⟨g, i * 5 + 2, none⟩ = some (.int .i64 op') := cell_of HT.out.at_ (hch 2 _ rfl)
        have q3 : wr.cell? ⟨g, i * 5 + 3, none⟩ = some (.string ev') := cell_of HT.out.at_ (hch 3 _ rfl)
        have q4 : wr.cell? ⟨g, i * 5 + 4, none⟩ = some (.slice a' n' c') := cell_of HT.out.at_ (hch 4 _ rfl)
        have HB : Hid (Below wr.heap.size wr (wr.alloc (.cells #[.int .i64 k', .string nm', .int .i64 op', .string ev', .slice a' n' c'] 52))) := below1 _ _
        have HH : Hid (DepsV (wr.alloc (.cells #[.int .i64 k', .string nm', .int .i64 op', .string ev', .slice a' n' c'] 52)) S n' args' (.slice a' n' c')) := hdv.below (below_tr HT.out.below HB.out)
        replace hIH := Lib.hid hIH
        replace he := Lib.hid he
        replace hd := Lib.hid hd
        replace hch := Lib.hid hch
        clear hdv
        go_wp2_with fail
        refine (hIH.out a' c' S _ HH.out).mono ?_
        rintro e w4 ⟨⟨a4, c4, rfl, hv4⟩, hb4⟩
        have H4 : Hid (OwnF w w4 S n args g cur i) := (HT.out.grow HB.out).grow hb4
        have HV : Hid (DepsV w4 (New (g + 1) w4) n' args' (.slice a4 n' c4)) := hv4.keep (fun b hb => by
          have h1 := lt_of_cells HT.out.at_
          have h2 := HB.out.size
          have h3 := hb.1
          exact ⟨by omega, hb.2⟩) (fun _ _ _ => rfl)
        have HN : Hid (OwnF w (w4.setCell ⟨g, i * 5 + 4, none⟩ (.slice a4 n' c4)) S n args g (cur.setIfInBounds (i * 5 + 4) (.slice a4 n' c4)) (i + 1)) := H4.out.set hlt he.out hd.out hch.out HV.out
        clear hv4 hb4 q0 q1 q2 q3 q4
        have r4 : w4.cell? ⟨g, i * 5 + 4, none⟩ = some (.slice a' n' c') := cell_of H4.out.at_ (hch.out 4 _ rfl)
        have f4 : w4.frozen? ⟨g, i * 5 + 4, none⟩ = false := frozen_of H4.out.at_
        go_wp2_with fail
        go_roundw
        case rel => exact ⟨i + 1, by go_num, by omega, _, HN.out⟩
        case measure => simp [intOf]; omega
      · have hi1 : ¬ (i : Int) < (n : Int) := by omega
        go_wp2_with fail
        go_ret
        refine ⟨⟨_, c1, rfl, _, c1, rfl, hn, fun _ => ⟨g, 0, rfl, ⟨HT.out.ge, _, _, HT.out.at_⟩, fun j => ?_⟩⟩, HT.out.below⟩
        obtain ⟨cs, h1, h2⟩ := HT.out.done j (by have := j.2; omega)
        refine ⟨cs, h1.keep (fun b hb => ?_) (fun _ _ _ => rfl) (fun _ _ => trivial), fun r u hr => ?_⟩
        · have := HT.out.ge
          exact ⟨by have := hb.1; omega, hb.2⟩
        · rw [Nat.zero_add]
          exact cell_of HT.out.at_ (h2 r u hr)
theorem ownF_c (n : Nat) (args : Fin n → DepT) : ∀ (a : Option Addr) (c : Nat) (S : Nat → Prop) (w : World), DepsV w S n args (.slice a n c) →
    Calls Tryz.prog 71 #[.slice a n c] w fun e w' => (∃ a' c', e = .returned (.slice a' n c') ∧ DepsV w' (New w.heap.size w') n args (.slice a' n c')) ∧ Below w.heap.size w w' := by
  have key : ∀ d : DepT, match d with
      | .mk k nm op ev m args' => ∀ (a : Option Addr) (c : Nat) (S : Nat → Prop) (w : World), DepsV w S m args' (.slice a m c) → Calls Tryz.prog 71 #[.slice a m c] w fun e w' => (∃ a' c', e = .returned (.slice a' m c') ∧ DepsV w' (New w.heap.size w') m args' (.slice a' m c')) ∧ Below w.heap.size w w' := by
    intro d
    induction d with
    | mk k nm op ev m args' ih => exact ownF_c0 m args' ih
  exact key (.mk 0 ⟨#[]⟩ 0 ⟨#[]⟩ n args)
end Go.Proofs.YtbdankpkdhhlmaaGreat
namespace Go.Proofs.YtbdankpkdhhlmaaGreat
set_option linter.unusedVariables false
set_option linter.unusedSimpArgs false
open Go.RowKit Go.Maps

/-- slices.Clone of texts. -/
theorem cloneF_c (l : List ByteArray) (a : Option Addr) (n c : Nat) (S : Nat → Prop) (w : World) (h : StrsV w S l (.slice a n c)) :
    Calls Tryz.prog 72 #[.slice a n c] w fun e w' => (∃ a' c', e = .returned (.slice a' n c') ∧ StrsV w' (New w.heap.size w') l (.slice a' n c')) ∧ Below w.heap.size w w' := by
  have hln := h.len
  obtain ⟨a2, c2, he, hs, hn, hin⟩ := h
  injection he with h1 h2 h3
  subst h1 h3
  rw [hln] at hn
  by_cases h0 : l = []
  · subst h0
    obtain rfl : n = 0 := by rw [← hln]; rfl
    cases a with
    | none =>
      refine (Any.slices_Clone_string_nil Tryz.layCloneS 0 c w).mono fun e w' ⟨he, hw⟩ => ?_
      subst hw
      exact ⟨⟨none, 0, he, none, 0, rfl, hs, by simp, fun h => absurd rfl h⟩, Below.refl _ _⟩
    | some a =>
      refine (Any.slices_Clone_string_zero Tryz.layCloneS a c w).mono fun e w' ⟨v', he, hown, hnil, hb⟩ => ?_
      obtain ⟨a', c', rfl⟩ : ∃ a' c', v' = .slice a' 0 c' := by
        rcases hown.2 with ⟨h, _⟩ | ⟨g, cap, cur, h, _⟩
        · exact ⟨none, 0, h⟩
        · exact ⟨_, cap, h⟩
      exact ⟨⟨a', c', he, a', c', rfl, hs, by simp, fun h => absurd rfl h⟩, hb⟩
  · obtain ⟨b, off, rfl, hb, hc⟩ := hin h0
    refine (Any.slices_Clone_string Tryz.layCloneS b off n c l w (by omega) hn (fun j hj => by rw [hc j hj]; simp [List.getD, hj])).mono fun e w' ⟨v', he, hown, hnil, hb'⟩ => ?_
    rcases hown.2 with ⟨hv, _⟩ | ⟨g, cap, cur, hv, hg, hcell, hcap, _, hsz, htake⟩
    · exact absurd hv hnil
    · subst hv
      refine ⟨⟨_, cap, he, _, cap, by rw [hln], hs, by omega, fun _ => ⟨g, 0, rfl, ⟨hg, _, _, hcell⟩, fun i hi => ?_⟩⟩, hb'⟩
      refine cell_of hcell ?_
      have h5 : (((l.take n).map Value.string))[i]? = some (.string l[i]) := by
        rw [List.take_of_length_le (by omega), List.getElem?_map, List.getElem?_eq_getElem hi]
        rfl
      have htake' : cur.toList.take (n * 1) = (l.take n).map Value.string := htake
      rw [← htake', List.getElem?_take_of_lt (by omega)] at h5
      rw [Nat.zero_add, ← Array.getElem?_toList]
      exact h5

/-- What the round knows. -/
structure CopyF (w0 w : World) (S : Nat → Prop) (p : PkgT) (v0 v : Fin 7 → Value) (vf : Value) (b r L : Nat) (i : Nat) : Prop where
  below : Below w0.heap.size w0 w
  lo : w0.heap.size ≤ b ∧ w0.heap.size ≤ r ∧ w0.heap.size ≤ L ∧ b < L ∧ r < L ∧ b ≠ r
  box : BoxN w b (pkgCells p.name p.evr p.arch p.vendor v vf) 45
  res : BoxN w r (pkgCells ⟨#[]⟩ ⟨#[]⟩ ⟨#[]⟩ ⟨#[]⟩ (fun _ => .slice none 0 0) (.slice none 0 0)) 45
  places : BoxN w L (placesL b) 115
  done : ∀ j : Fin 7, j.val < i → DepsV w (New (L + 1) w) (p.n j) (p.deps j) (v j)
  left : ∀ j : Fin 7, i ≤ j.val → v j = v0 j
theorem CopyF.grow {w0 w w' : World} {S : Nat → Prop} {p : PkgT} {v0 v : Fin 7 → Value} {vf : Value} {b r L i : Nat} (h : CopyF w0 w S p v0 v vf b r L i) (hb : Below w.heap.size w w') : CopyF w0 w' S p v0 v vf b r L i :=
  ⟨below_tr h.below hb, h.lo, h.box.below hb, h.res.below hb, h.places.below hb, fun j hj => (h.done j hj).new hb, h.left⟩
theorem CopyF.set {w0 w : World} {S : Nat → Prop} {p : PkgT} {v0 v : Fin 7 → Value} {vf : Value} {b r L i : Nat} (h : CopyF w0 w S p v0 v vf b r L i) (hi : i < 7) {x : Value} (hx : DepsV w (New (L + 1) w) (p.n ⟨i, hi⟩) (p.deps ⟨i, hi⟩) x) :
    CopyF w0 (w.setCell ⟨b, 4 + i, none⟩ x) S p v0 (fun j => if j.val = i then x else v j) vf b r L (i + 1) := by
  have hk : ∀ c, New (L + 1) w c → c < w.heap.size → (w.setCell ⟨b, 4 + i, none⟩ x).heap[c]? = w.heap[c]? := fun c hc _ => set_other _ (by have h1 := hc.1; have := h.lo; omega)
  have hnw : ∀ c, New (L + 1) w c → New (L + 1) (w.setCell ⟨b, 4 + i, none⟩ x) c := fun c hc => ⟨hc.1, hc.2.set _ _ _⟩
  refine ⟨below_sc h.below h.lo.1 _ _, h.lo, ?_, h.res.to (set_other _ (by have := h.lo; omega)), h.places.to (set_other _ (by have := h.lo; omega)), fun j hj => ?_, fun j hj => ?_⟩
  · have := set_cells (o := 4 + i) h.box x
    rw [pkg_set _ _ _ _ _ _ hi] at this
    exact this
  · by_cases e : j.val = i
    · obtain rfl : j = ⟨i, hi⟩ := Fin.ext e
      simp only [if_true]
      exact hx.keep hnw hk
    · simp only [if_neg e]
      exact (h.done j (by omega)).keep hnw hk
  · rw [if_neg (by omega)]
    exact h.left j (by omega)

set_option maxHeartbeats 4000000 in
set_option maxRecDepth 100000 in
/-- pool.copied. -/
theorem copiedF_c (p : PkgT) (a : Fin 7 → Option Addr) (c : Fin 7 → Nat) (af : Option Addr) (nf cf : Nat) (S : Nat → Prop) (w : World) (h : PkgV w S p (fun i => .slice (a i) (p.n i) (c i)) (.slice af nf cf)) :
    Calls Tryz.prog 47 #[.agg #[.string p.name, .string p.evr, .string p.arch, .string p.vendor, .slice (a 0) (p.n 0) (c 0), .slice (a 1) (p.n 1) (c 1), .slice (a 2) (p.n 2) (c 2), .slice (a 3) (p.n 3) (c 3), .slice (a 4) (p.n 4) (c 4), .slice (a 5) (p.n 5) (c 5), .slice (a 6) (p.n 6) (c 6), .slice af nf cf]] w fun e w' => (∃ (a' : Fin 7 → Option Addr) (c' : Fin 7 → Nat) (af' : Option Addr) (cf' : Nat), e = .returned (.agg #[.string p.name, .string p.evr, .string p.arch, .string p.vendor, .slice (a' 0) (p.n 0) (c' 0), .slice (a' 1) (p.n 1) (c' 1), .slice (a' 2) (p.n 2) (c' 2), .slice (a' 3) (p.n 3) (c' 3), .slice (a' 4) (p.n 4) (c' 4), .slice (a' 5) (p.n 5) (c' 5), .slice (a' 6) (p.n 6) (c' 6), .slice af' nf cf']) ∧ PkgV w' (New w.heap.size w') p (fun i => .slice (a' i) (p.n i) (c' i)) (.slice af' nf cf')) ∧ Below w.heap.size w w' := by
  obtain ⟨w2, e2⟩ : ∃ w2, (w.alloc (.cells #[.string p.name, .string p.evr, .string p.arch, .string p.vendor, .slice (a 0) (p.n 0) (c 0), .slice (a 1) (p.n 1) (c 1), .slice (a 2) (p.n 2) (c 2), .slice (a 3) (p.n 3) (c 3), .slice (a 4) (p.n 4) (c 4), .slice (a 5) (p.n 5) (c 5), .slice (a 6) (p.n 6) (c 6), .slice af nf cf] 45)).alloc (.cells #[.string ⟨#[]⟩, .string ⟨#[]⟩, .string ⟨#[]⟩, .string ⟨#[]⟩, .slice none 0 0, .slice none 0 0, .slice none 0 0, .slice none 0 0, .slice none 0 0, .slice none 0 0, .slice none 0 0, .slice none 0 0] 45) = w2 := ⟨_, rfl⟩
  have HB2 : Hid (Below w.heap.size w w2 ∧ BoxN w2 w.heap.size (pkgCells p.name p.evr p.arch p.vendor (fun i => .slice (a i) (p.n i) (c i)) (.slice af nf cf)) 45 ∧ BoxN w2 (w.heap.size + 1) (pkgCells ⟨#[]⟩ ⟨#[]⟩ ⟨#[]⟩ ⟨#[]⟩ (fun _ => .slice none 0 0) (.slice none 0 0)) 45 ∧ w2.heap.size = w.heap.size + 2) := by
    rw [← e2]
    refine ⟨below2 _ _ _, (boxN_alloc _ _ _).below (below1 _ _), ?_, by simp⟩
    have := boxN_alloc (w.alloc (.cells #[.string p.name, .string p.evr, .string p.arch, .string p.vendor, .slice (a 0) (p.n 0) (c 0), .slice (a 1) (p.n 1) (c 1), .slice (a 2) (p.n 2) (c 2), .slice (a 3) (p.n 3) (c 3), .slice (a 4) (p.n 4) (c 4), .slice (a 5) (p.n 5) (c 5), .slice (a 6) (p.n 6) (c 6), .slice af nf cf] 45)) (pkgCells ⟨#[]⟩ ⟨#[]⟩ ⟨#[]⟩ ⟨#[]⟩ (fun _ => .slice none 0 0) (.slice none 0 0)) 45
    rw [World.size_alloc] at this
    exact this
  replace h := Lib.hid h
  go_enter Tryz.func47, Tryz.ntmps47
  go_wp2_with fail
  refine (lists_c w.heap.size w2).mono ?_
  rintro e w3 ⟨rfl, hb3, hl3⟩
  have HC : Hid (CopyF w w3 S p (fun i => .slice (a i) (p.n i) (c i)) (fun i => .slice (a i) (p.n i) (c i)) (.slice af nf cf) w.heap.size (w.heap.size + 1) w2.heap.size 0) := by
    have h4 := HB2.out.2.2.2
    exact ⟨below_tr HB2.out.1 hb3, ⟨Nat.le_refl _, by omega, by omega, by omega, by omega, by omega⟩, HB2.out.2.1.below hb3, HB2.out.2.2.1.below hb3, hl3, fun j hj => absurd hj (Nat.not_lt_zero _), fun j _ => rfl⟩
  clear hb3 hl3 e2 HB2
  generalize w2.heap.size = L at HC
  generalize hr : w.heap.size + 1 = r at HC ⊢
  clear hr w2
  go_wp2_with fail
  go_loopw [7] (fun vi wr => ∃ i : Nat, vi = .int .i64 i ∧ i ≤ 7 ∧ Hid (∃ v, CopyF w wr S p (fun i => .slice (a i) (p.n i) (c i)) v (.slice af nf cf) w.heap.size r L i)) (fun vi _ => 7 - (intOf vi).toNat)
  case atStart => exact ⟨0, rfl, by omega, _, HC.out⟩
  case round =>
    obtain ⟨i, rfl, hin, HT0⟩ := hrel
    obtain ⟨v, hT⟩ := HT0.out
    have HT := Lib.hid hT
    clear hT HT0 HC
    by_cases hlt : i < 7
    · have hi1 : (i : Int) < 7 := by omega
      have hi2 : ¬ (7 : Int) ≤ i := by omega
      have l1 := HT.out.places.cell (lists_at _ hlt)
      obtain ⟨n, args, ai, ci, hv, hn, hd⟩ : ∃ n, ∃ args : Fin n → DepT, ∃ ai ci, v ⟨i, hlt⟩ = .slice ai n ci ∧ (∀ W a' c', DepsV W (New (L + 1) W) n args (.slice a' n c') → DepsV W (New (L + 1) W) (p.n ⟨i, hlt⟩) (p.deps ⟨i, hlt⟩) (.slice a' n c')) ∧ DepsV w S n args (.slice ai n ci) := by
        refine ⟨_, p.deps ⟨i, hlt⟩, a ⟨i, hlt⟩, c ⟨i, hlt⟩, HT.out.left ⟨i, hlt⟩ (Nat.le_refl _), fun W a' c' h => h, ?_⟩
        exact h.out.deps ⟨i, hlt⟩
      have l2 : wr.cell? ⟨w.heap.size, 4 + i, none⟩ = some (.slice ai n ci) := by rw [← hv]; exact HT.out.box.cell (pkg_at _ _ _ _ _ _ hlt)
      have hO := Lib.hid (ownF_c n args ai ci S wr (hd.below HT.out.below))
      replace hn := Lib.hid hn
      clear hd hv
      go_wp2_with fail
      refine hO.out.mono ?_
      rintro e w4 ⟨⟨a4, c4, rfl, hv4⟩, hb4⟩
      have H4 : Hid (CopyF w w4 S p (fun i => .slice (a i) (p.n i) (c i)) v (.slice af nf cf) w.heap.size r L i) := HT.out.grow hb4
      have HN : Hid (CopyF w (w4.setCell ⟨w.heap.size, 4 + i, none⟩ (.slice a4 n c4)) S p (fun i => .slice (a i) (p.n i) (c i)) (fun j => if j.val = i then .slice a4 n c4 else v j) (.slice af nf cf) w.heap.size r L (i + 1)) := by
        refine H4.out.set hlt (hn.out _ _ _ (hv4.keep (fun b hb => ?_) (fun _ _ _ => rfl)))
        have h1 := HT.out.places.lt
        have h2 := hb.1
        exact ⟨by omega, hb.2⟩
      have r4 : w4.cell? ⟨w.heap.size, 4 + i, none⟩ = some (.slice ai n ci) := (hb4.cell (p := ⟨w.heap.size, 4 + i, none⟩) HT.out.box.lt).trans l2
      have f4 : w4.frozen? ⟨w.heap.size, 4 + i, none⟩ = false := H4.out.box.frozen _
      clear hv4 hb4 l1 l2
      go_wp2_with fail
      go_roundw
      case rel => exact ⟨i + 1, by go_num, by omega, _, HN.out⟩
      case measure => simp [intOf]; omega
    · have hi1 : ¬ (i : Int) < 7 := by omega
      obtain rfl : i = 7 := by omega
      obtain ⟨a', c', rfl⟩ : ∃ (a' : Fin 7 → Option Addr) (c' : Fin 7 → Nat), v = fun i => .slice (a' i) (p.n i) (c' i) := by
        have hd : ∀ j : Fin 7, DepsV wr (New (L + 1) wr) (p.n j) (p.deps j) (v j) := fun j => HT.out.done j j.2
        refine ⟨fun i => (hd i).choose, fun i => (hd i).choose_spec.choose, ?_⟩
        funext i
        exact (hd i).choose_spec.choose_spec.1
      have pf := HT.out.box.cell (j := 11) rfl
      have HS := Lib.hid (cloneF_c p.files af nf cf S wr (h.out.files.below HT.out.below))
      go_wp2_with fail
      refine HS.out.mono ?_
      rintro e w5 ⟨⟨a5, c5, rfl, hv5⟩, hb5⟩
      have H5 := HT.out.grow hb5
      obtain ⟨w6, e6⟩ : ∃ w6, w5.setCell ⟨w.heap.size, 11, none⟩ (.slice a5 nf c5) = w6 := ⟨_, rfl⟩
      have q5 : w5.cell? ⟨w.heap.size, 11, none⟩ = some (.slice af nf cf) := H5.box.cell (j := 11) rfl
      have g5 : w5.frozen? ⟨w.heap.size, 11, none⟩ = false := H5.box.frozen 11
      have HE : Hid (Below w.heap.size w w6 ∧ BoxN w6 w.heap.size (pkgCells p.name p.evr p.arch p.vendor (fun i => .slice (a' i) (p.n i) (c' i)) (.slice a5 nf c5)) 45 ∧ BoxN w6 r (pkgCells ⟨#[]⟩ ⟨#[]⟩ ⟨#[]⟩ ⟨#[]⟩ (fun _ => .slice none 0 0) (.slice none 0 0)) 45 ∧
          PkgV w6 (New (L + 1) w6) p (fun i => .slice (a' i) (p.n i) (c' i)) (.slice a5 nf c5) ∧ w.heap.size ≤ r ∧ w.heap.size ≤ L ∧ r < L ∧ w.heap.size ≠ r) := by
        rw [← e6]
        have hlo := H5.lo
        have hk : ∀ c, New (L + 1) w5 c → c < w5.heap.size → (w5.setCell ⟨w.heap.size, 11, none⟩ (.slice a5 nf c5)).heap[c]? = w5.heap[c]? := fun c hc _ => set_other _ (by have h1 := hc.1; omega)
        have hnw : ∀ c, New (L + 1) w5 c → New (L + 1) (w5.setCell ⟨w.heap.size, 11, none⟩ (.slice a5 nf c5)) c := fun c hc => ⟨hc.1, hc.2.set _ _ _⟩
        refine ⟨below_sc H5.below hlo.1 _ _, ?_, H5.res.to (set_other _ (by omega)), ⟨h.out.name, h.out.evr, h.out.arch, h.out.vendor, fun j => (H5.done j j.2).keep hnw hk, ?_⟩, hlo.2.1, hlo.2.2.1, hlo.2.2.2.2.1, hlo.2.2.2.2.2⟩
        · exact set_cells (o := 11) H5.box (.slice a5 nf c5)
        · refine StrsV.keep (S := New (L + 1) w5) hnw hk (hv5.keep (fun b hb => ?_) (fun _ _ _ => rfl))
          have h1 := HT.out.places.lt
          have h2 := hb.1
          exact ⟨by omega, hb.2⟩
      clear hv5 hb5 H5 pf
      have p0 := HE.out.2.1.cell (j := 0) rfl
      have p1 := HE.out.2.1.cell (j := 1) rfl
      have p2 := HE.out.2.1.cell (j := 2) rfl
      have p3 := HE.out.2.1.cell (j := 3) rfl
      have p4 := HE.out.2.1.cell (j := 4) rfl
      have p5 := HE.out.2.1.cell (j := 5) rfl
      have p6 := HE.out.2.1.cell (j := 6) rfl
      have p7 := HE.out.2.1.cell (j := 7) rfl
      have p8 := HE.out.2.1.cell (j := 8) rfl
      have p9 := HE.out.2.1.cell (j := 9) rfl
      have p10 := HE.out.2.1.cell (j := 10) rfl
      have p11 := HE.out.2.1.cell (j := 11) rfl
      have z0 := HE.out.2.2.1.cell (j := 0) rfl
      have z1 := HE.out.2.2.1.cell (j := 1) rfl
      have z2 := HE.out.2.2.1.cell (j := 2) rfl
      have z3 := HE.out.2.2.1.cell (j := 3) rfl
      have z4 := HE.out.2.2.1.cell (j := 4) rfl
      have z5 := HE.out.2.2.1.cell (j := 5) rfl
      have z6 := HE.out.2.2.1.cell (j := 6) rfl
      have z7 := HE.out.2.2.1.cell (j := 7) rfl
      have z8 := HE.out.2.2.1.cell (j := 8) rfl
      have z9 := HE.out.2.2.1.cell (j := 9) rfl
      have z10 := HE.out.2.2.1.cell (j := 10) rfl
      have z11 := HE.out.2.2.1.cell (j := 11) rfl
      have y0 := HE.out.2.2.1.frozen 0
      have y1 := HE.out.2.2.1.frozen 1
      have y2 := HE.out.2.2.1.frozen 2
      have y3 := HE.out.2.2.1.frozen 3
      have y4 := HE.out.2.2.1.frozen 4
      have y5 := HE.out.2.2.1.frozen 5
      have y6 := HE.out.2.2.1.frozen 6
      have y7 := HE.out.2.2.1.frozen 7
      have y8 := HE.out.2.2.1.frozen 8
      have y9 := HE.out.2.2.1.frozen 9
      have y10 := HE.out.2.2.1.frozen 10
      have y11 := HE.out.2.2.1.frozen 11
      have hne : w.heap.size ≠ r := HE.out.2.2.2.2.2.2.2
      obtain ⟨w8, e8⟩ : ∃ w8, ((((((((((((w6.setCell ⟨r, 0, none⟩ (.string p.name)).setCell ⟨r, 1, none⟩ (.string p.evr)).setCell ⟨r, 2, none⟩ (.string p.arch)).setCell ⟨r, 3, none⟩ (.string p.vendor)).setCell ⟨r, 4, none⟩ (.slice (a' 0) (p.n 0) (c' 0))).setCell ⟨r, 5, none⟩ (.slice (a' 1) (p.n 1) (c' 1))).setCell ⟨r, 6, none⟩ (.slice (a' 2) (p.n 2) (c' 2))).setCell ⟨r, 7, none⟩ (.slice (a' 3) (p.n 3) (c' 3))).setCell ⟨r, 8, none⟩ (.slice (a' 4) (p.n 4) (c' 4))).setCell ⟨r, 9, none⟩ (.slice (a' 5) (p.n 5) (c' 5))).setCell ⟨r, 10, none⟩ (.slice (a' 6) (p.n 6) (c' 6))).setCell ⟨r, 11, none⟩ (.slice a5 nf c5)) = w8 := ⟨_, rfl⟩
      have HW : Hid (Below w.heap.size w w8 ∧ BoxN w8 r (pkgCells p.name p.evr p.arch p.vendor (fun i => .slice (a' i) (p.n i) (c' i)) (.slice a5 nf c5)) 45 ∧ PkgV w8 (New w.heap.size w8) p (fun i => .slice (a' i) (p.n i) (c' i)) (.slice a5 nf c5)) := by
        obtain ⟨h1, _, h3, h4, h5, h6, h7, _⟩ := HE.out
        rw [← e8]
        refine ⟨h1.trans (fill12_below h5 _ _ _ _ _ _ _ _ _ _ _ _), fill12 h3 _ _ _ _ _ _ _ _ _ _ _ _, h4.keep (fun b hb => ?_) (fun b hb _ => ?_)⟩
        · have hb' := hb.1
          exact ⟨by omega, hb.2.keep (fill12_other (by omega) _ _ _ _ _ _ _ _ _ _ _ _)⟩
        · exact fill12_other (by have hb' := hb.1; omega) _ _ _ _ _ _ _ _ _ _ _ _
      go_wp2_with fail
      have x0 := HW.out.2.1.cell (j := 0) rfl
      have x1 := HW.out.2.1.cell (j := 1) rfl
      have x2 := HW.out.2.1.cell (j := 2) rfl
      have x3 := HW.out.2.1.cell (j := 3) rfl
      have x4 := HW.out.2.1.cell (j := 4) rfl
      have x5 := HW.out.2.1.cell (j := 5) rfl
      have x6 := HW.out.2.1.cell (j := 6) rfl
      have x7 := HW.out.2.1.cell (j := 7) rfl
      have x8 := HW.out.2.1.cell (j := 8) rfl
      have x9 := HW.out.2.1.cell (j := 9) rfl
      have x10 := HW.out.2.1.cell (j := 10) rfl
      have x11 := HW.out.2.1.cell (j := 11) rfl
      refine bodyPost_ret (v := .agg #[.string p.name, .string p.evr, .string p.arch, .string p.vendor, .slice (a' 0) (p.n 0) (c' 0), .slice (a' 1) (p.n 1) (c' 1), .slice (a' 2) (p.n 2) (c' 2), .slice (a' 3) (p.n 3) (c' 3), .slice (a' 4) (p.n 4) (c' 4), .slice (a' 5) (p.n 5) (c' 5), .slice (a' 6) (p.n 6) (c' 6), .slice a5 nf c5]) (by simp [results, Tryz.results47, go_sem, x0, x1, x2, x3, x4, x5, x6, x7, x8, x9, x10, x11]) rfl ?_
      exact ⟨⟨a', c', a5, c5, rfl, HW.out.2.2⟩, HW.out.1⟩
end Go.Proofs.YtbdankpkdhhlmaaGreat
