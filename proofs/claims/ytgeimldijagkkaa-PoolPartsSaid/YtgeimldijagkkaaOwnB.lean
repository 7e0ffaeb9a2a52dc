/-
  A list of dependencies in memory of its own, to the bottom: the walk. Helper text; the conditions are those typed.
-/
import Derived.Test.YtgeimldijagkkaaOwnA
namespace Go.Proofs.Ytgeimldijagkkaa
set_option linter.unusedVariables false
set_option linter.unusedSimpArgs false
open Go.RowKit Go.Maps

theorem set_cells {w : World} {g o : Nat} {cur : Array Value} {ty : TypeId} {fz : Nat × Nat} (h : w.heap[g]? = some (.cells cur ty fz)) (v : Value) : (w.setCell ⟨g, o, none⟩ v).heap[g]? = some (.cells (cur.setIfInBounds o v) ty fz) := by
  unfold World.setCell
  simp [Array.getElem?_modify, h]
theorem set_other {w : World} {g c o : Nat} (v : Value) (hc : c ≠ g) : (w.setCell ⟨g, o, none⟩ v).heap[c]? = w.heap[c]? := by
  unfold World.setCell
  simp [Array.getElem?_modify, Ne.symm hc]
theorem set_size {w : World} {g o : Nat} (v : Value) : (w.setCell ⟨g, o, none⟩ v).heap.size = w.heap.size := by
  unfold World.setCell
  simp
theorem cell_of {w : World} {g o : Nat} {cur : Array Value} {ty : TypeId} {fz : Nat × Nat} (h : w.heap[g]? = some (.cells cur ty fz)) {v : Value} (hv : cur[o]? = some v) : w.cell? ⟨g, o, none⟩ = some v := by
  unfold World.cell?
  simp [h, hv]
theorem frozen_of {w : World} {g o : Nat} {cur : Array Value} {ty : TypeId} (h : w.heap[g]? = some (.cells cur ty (0, 0))) : w.frozen? ⟨g, o, none⟩ = false := by
  unfold World.frozen?
  simp [h]
theorem lt_of_cells {w : World} {g : Nat} {o : Obj} (h : w.heap[g]? = some o) : g < w.heap.size := by
  rcases Nat.lt_or_ge g w.heap.size with h' | h'
  · exact h'
  · rw [Array.getElem?_eq_none h'] at h; cases h

/-- What the round knows of the list that is its own. -/
structure OwnAt (w0 w : World) (S : Nat → Prop) (n : Nat) (args : Fin n → DepT) (g : Nat) (cur : Array Value) (i : Nat) : Prop where
  below : Below w0.heap.size w0 w
  ge : w0.heap.size ≤ g
  at_ : w.heap[g]? = some (.cells cur 85 (0, 0))
  done : ∀ j : Fin n, j.val < i → ∃ cs, DepC w (fun b => g < b) (args j) cs ∧ Chunk cur 5 j cs
  left : ∀ j : Fin n, i ≤ j.val → ∃ cs, DepC w0 S (args j) cs ∧ Chunk cur 5 j cs
theorem OwnAt.grow {w0 w w' : World} {S : Nat → Prop} {n : Nat} {args : Fin n → DepT} {g : Nat} {cur : Array Value} {i : Nat} (h : OwnAt w0 w S n args g cur i) (hb : Below w.heap.size w w') : OwnAt w0 w' S n args g cur i :=
  ⟨below_tr h.below hb, h.ge, (hb.block g (lt_of_cells h.at_)).trans h.at_, fun j hj => by
    obtain ⟨cs, h1, h2⟩ := h.done j hj
    exact ⟨cs, h1.below hb, h2⟩, h.left⟩
theorem OwnAt.set {w0 w : World} {S : Nat → Prop} {n : Nat} {args : Fin n → DepT} {g : Nat} {cur : Array Value} {i : Nat} (h : OwnAt w0 w S n args g cur i) (hi : i < n) {k : Int} {nm : ByteArray} {op : Int} {ev : ByteArray} {m : Nat} {args' : Fin m → DepT} {a a' : Option Addr} {c c' : Nat}
    (hd : args ⟨i, hi⟩ = .mk k nm op ev m args') (hold : DepC w0 S (args ⟨i, hi⟩) [.int .i64 k, .string nm, .int .i64 op, .string ev, .slice a m c]) (hch : Chunk cur 5 i [.int .i64 k, .string nm, .int .i64 op, .string ev, .slice a m c])
    (hnew : DepsV w (fun b => g < b) m args' (.slice a' m c')) : OwnAt w0 (w.setCell ⟨g, i * 5 + 4, none⟩ (.slice a' m c')) S n args g (cur.setIfInBounds (i * 5 + 4) (.slice a' m c')) (i + 1) := by
  have hkeep : ∀ b, (fun b => g < b) b → b < w.heap.size → (w.setCell ⟨g, i * 5 + 4, none⟩ (.slice a' m c')).heap[b]? = w.heap[b]? := fun b hb _ => set_other _ (by have : g < b := hb; omega)
  have h4 : cur[i * 5 + 4]? = some (.slice a m c) := hch 4 _ rfl
  have hlt4 : i * 5 + 4 < cur.size := (Array.getElem?_eq_some_iff.1 h4).1
  refine ⟨below_sc h.below h.ge _ _, h.ge, set_cells h.at_ _, fun j hj => ?_, fun j hj => ?_⟩
  · by_cases e : j.val = i
    · obtain rfl : j = ⟨i, hi⟩ := Fin.ext e
      refine ⟨[.int .i64 k, .string nm, .int .i64 op, .string ev, .slice a' m c'], ?_, ?_⟩
      · rw [hd] at hold ⊢
        obtain ⟨v, h1, h2, h3, h4', _⟩ := depC_iff.1 hold
        exact depC_iff.2 ⟨_, rfl, h2, h3, h4', hnew.keep (fun _ h => h) hkeep⟩
      · intro r u hr
        show (cur.setIfInBounds (i * 5 + 4) (.slice a' m c'))[i * 5 + r]? = some u
        rw [Array.getElem?_setIfInBounds]
        match r, hr with
        | 0, hr => rw [if_neg (by omega)]; exact hch 0 u hr
        | 1, hr => rw [if_neg (by omega)]; exact hch 1 u hr
        | 2, hr => rw [if_neg (by omega)]; exact hch 2 u hr
        | 3, hr => rw [if_neg (by omega)]; exact hch 3 u hr
        | 4, hr => rw [if_pos rfl, if_pos hlt4]; exact hr
        | r + 5, hr => simp at hr
    · obtain ⟨cs, h1, h2⟩ := h.done j (by omega)
      refine ⟨cs, h1.keep (fun _ h => h) hkeep (fun _ _ => trivial), fun r u hr => ?_⟩
      have hr5 : r < 5 := by
        have := (List.getElem?_eq_some_iff.1 hr).1
        rwa [h1.len] at this
      rw [Array.getElem?_setIfInBounds, if_neg (by omega)]
      exact h2 r u hr
  · obtain ⟨cs, h1, h2⟩ := h.left j (by omega)
    refine ⟨cs, h1, fun r u hr => ?_⟩
    have hr5 : r < 5 := by
      have := (List.getElem?_eq_some_iff.1 hr).1
      rwa [h1.len] at this
    rw [Array.getElem?_setIfInBounds, if_neg (by omega)]
    exact h2 r u hr

set_option maxHeartbeats 2000000 in
set_option maxRecDepth 100000 in
/-- pool.own. -/
theorem own_c0 (n : Nat) (args : Fin n → DepT) (ih : ∀ i : Fin n, match args i with
      | .mk k nm op ev m args' => ∀ (a : Option Addr) (c : Nat) (S : Nat → Prop) (w : World), DepsV w S m args' (.slice a m c) → Calls Try.prog 69 #[.slice a m c] w fun e w' => (∃ a' c', e = .returned (.slice a' m c') ∧ DepsV w' (fun b => w.heap.size ≤ b) m args' (.slice a' m c')) ∧ Below w.heap.size w w') :
    ∀ (a : Option Addr) (c : Nat) (S : Nat → Prop) (w : World), DepsV w S n args (.slice a n c) →
    Calls Try.prog 69 #[.slice a n c] w fun e w' => (∃ a' c', e = .returned (.slice a' n c') ∧ DepsV w' (fun b => w.heap.size ≤ b) n args (.slice a' n c')) ∧ Below w.heap.size w w' := by
  intro a c S w h
  have hn : n * 72 ≤ 140737488355328 := by
    obtain ⟨_, _, _, h1, _⟩ := h
    exact h1
  have HC := Lib.hid (cloneD_c n args a c S w h)
  have IH := Lib.hid ih
  clear h ih
  go_enter Try.func69, Try.ntmps69
  go_wp2_with fail
  refine HC.out.mono ?_
  rintro e w1 ⟨⟨a1, c1, rfl, hg⟩, hb1⟩
  clear HC
  by_cases h0 : n = 0
  · subst h0
    replace hb1 := Lib.hid hb1
    clear hg
    go_wp2_with fail
    go_loopw [9] (fun vi wr => vi = .int .i64 0 ∧ w1 = wr) (fun _ _ => 0)
    case atStart => exact ⟨rfl, rfl⟩
    case round =>
      obtain ⟨rfl, rfl⟩ := hrel
      go_wp2_with fail
      go_ret
      exact ⟨⟨a1, c1, rfl, a1, c1, rfl, by omega, fun h => absurd rfl h⟩, hb1.out⟩
  · obtain ⟨g, cur, rfl, hge, hat, hch⟩ := hg h0
    have H0 : Hid (OwnAt w w1 S n args g cur 0) := ⟨hb1, hge, hat, fun j hj => absurd hj (Nat.not_lt_zero _), fun j _ => hch j⟩
    clear hg hb1 hge hat hch
    go_wp2_with fail
    go_loopw [9] (fun vi wr => ∃ i : Nat, vi = .int .i64 i ∧ i ≤ n ∧ Hid (∃ cur, OwnAt w wr S n args g cur i)) (fun vi _ => n - (intOf vi).toNat)
    case atStart => exact ⟨0, rfl, Nat.zero_le _, cur, H0.out⟩
    case round =>
      clear H0 cur
      obtain ⟨i, rfl, hin, HT⟩ := hrel
      obtain ⟨cur, hT⟩ := HT.out
      replace HT := Lib.hid hT
      clear hT
      by_cases hlt : i < n
      · have hi1 : (i : Int) < (n : Int) := by omega
        obtain ⟨cs, hd, hch⟩ := HT.out.left ⟨i, hlt⟩ (Nat.le_refl _)
        have hIH := IH.out ⟨i, hlt⟩
        obtain ⟨k', nm', op', ev', n', args', he⟩ : ∃ k' nm' op' ev' n', ∃ args' : Fin n' → DepT, args ⟨i, hlt⟩ = .mk k' nm' op' ev' n' args' := by
          cases args ⟨i, hlt⟩ with
          | mk k' nm' op' ev' n' args' => exact ⟨k', nm', op', ev', n', args', rfl⟩
        have hd0 := hd
        rw [he] at hd0 hIH
        obtain ⟨a', c', rfl, hd1⟩ := hd0
        have hdv : DepsV w S n' args' (.slice a' n' c') := ⟨a', c', rfl, hd1.2.2.2⟩
        clear hd1
        have q0 : wr.cell? ⟨g, i * 5, none⟩ = some (.int .i64 k') := cell_of HT.out.at_ (hch 0 _ rfl)
        have q1 : wr.cell? ⟨g, i * 5 + 1, none⟩ = some (.string nm') := cell_of HT.out.at_ (hch 1 _ rfl)
        have q2 : wr.cell? ⟨g, i * 5 + 2, none⟩ = some (.int .i64 op') := cell_of HT.out.at_ (hch 2 _ rfl)
        have q3 : wr.cell? ⟨g, i * 5 + 3, none⟩ = some (.string ev') := cell_of HT.out.at_ (hch 3 _ rfl)
        have q4 : wr.cell? ⟨g, i * 5 + 4, none⟩ = some (.slice a' n' c') := cell_of HT.out.at_ (hch 4 _ rfl)
        have HB : Hid (Below wr.heap.size wr (wr.alloc (.cells #[.int .i64 k', .string nm', .int .i64 op', .string ev', .slice a' n' c'] 85))) := below1 _ _
        have HH : Hid (DepsV (wr.alloc (.cells #[.int .i64 k', .string nm', .int .i64 op', .string ev', .slice a' n' c'] 85)) S n' args' (.slice a' n' c')) := hdv.below (below_tr HT.out.below HB.out)
        replace hIH := Lib.hid hIH
        replace he := Lib.hid he
        replace hd := Lib.hid hd
        replace hch := Lib.hid hch
        clear hdv
        go_wp2_with fail
        refine (hIH.out a' c' S _ HH.out).mono ?_
        rintro e w4 ⟨⟨a4, c4, rfl, hv4⟩, hb4⟩
        have H4 : Hid (OwnAt w w4 S n args g cur i) := (HT.out.grow HB.out).grow hb4
        have HV : Hid (DepsV w4 (fun b => g < b) n' args' (.slice a4 n' c4)) := hv4.keep (fun b hb => by
          have h1 := lt_of_cells HT.out.at_
          have h2 := HB.out.size
          have h3 : (wr.alloc (.cells #[.int .i64 k', .string nm', .int .i64 op', .string ev', .slice a' n' c'] 85)).heap.size ≤ b := hb
          show g < b
          omega) (fun _ _ _ => rfl)
        have HN : Hid (OwnAt w (w4.setCell ⟨g, i * 5 + 4, none⟩ (.slice a4 n' c4)) S n args g (cur.setIfInBounds (i * 5 + 4) (.slice a4 n' c4)) (i + 1)) := H4.out.set hlt he.out hd.out hch.out HV.out
        clear hv4 hb4 q0 q1 q2 q3 q4
        have r4 : w4.cell? ⟨g, i * 5 + 4, none⟩ = some (.slice a' n' c') := cell_of H4.out.at_ (hch.out 4 _ rfl)
        have f4 : w4.frozen? ⟨g, i * 5 + 4, none⟩ = false := frozen_of H4.out.at_
        go_wp2_with fail
        go_roundw
        case rel => exact ⟨i + 1, by go_num, by omega, _, HN.out⟩
        case measure => simp [intOf]; omega
      · have hi1 : ¬ (i : Int) < (n : Int) := by omega
        go_wp2_with fail
        go_ret
        refine ⟨⟨_, c1, rfl, _, c1, rfl, hn, fun _ => ⟨g, 0, rfl, HT.out.ge, fun j => ?_⟩⟩, HT.out.below⟩
        obtain ⟨cs, h1, h2⟩ := HT.out.done j (by have := j.2; omega)
        refine ⟨cs, h1.keep (fun b hb => ?_) (fun _ _ _ => rfl) (fun _ _ => trivial), fun r u hr => ?_⟩
        · have hb' : g < b := hb
          have := HT.out.ge
          show w.heap.size ≤ b
          omega
        · rw [Nat.zero_add]
          exact cell_of HT.out.at_ (h2 r u hr)
theorem own_c (n : Nat) (args : Fin n → DepT) : ∀ (a : Option Addr) (c : Nat) (S : Nat → Prop) (w : World), DepsV w S n args (.slice a n c) →
    Calls Try.prog 69 #[.slice a n c] w fun e w' => (∃ a' c', e = .returned (.slice a' n c') ∧ DepsV w' (fun b => w.heap.size ≤ b) n args (.slice a' n c')) ∧ Below w.heap.size w w' := by
  have key : ∀ d : DepT, match d with
      | .mk k nm op ev m args' => ∀ (a : Option Addr) (c : Nat) (S : Nat → Prop) (w : World), DepsV w S m args' (.slice a m c) → Calls Try.prog 69 #[.slice a m c] w fun e w' => (∃ a' c', e = .returned (.slice a' m c') ∧ DepsV w' (fun b => w.heap.size ≤ b) m args' (.slice a' m c')) ∧ Below w.heap.size w w' := by
    intro d
    induction d with
    | mk k nm op ev m args' ih => exact own_c0 m args' ih
  exact key (.mk 0 ⟨#[]⟩ 0 ⟨#[]⟩ n args)
end Go.Proofs.Ytgeimldijagkkaa
