/-
  Adding a repository: what is asked of those that are there. Helper text; the conditions are those typed.
-/
import Derived.Test.YtgeimldijagkkaaPoolSt
namespace Go.Proofs.Ytgeimldijagkkaa
set_option linter.unusedVariables false
set_option linter.unusedSimpArgs false
open Go.RowKit Go.Maps

theorem flatL_len {α : Type} {k : Nat} (f : α → List Value) (hl : ∀ x, (f x).length = k) : ∀ l : List α, (l.flatMap f).length = l.length * k
  | [] => by simp
  | x :: l => by rw [List.flatMap_cons, List.length_append, hl, flatL_len f hl l, List.length_cons, Nat.succ_mul]; omega
theorem flatL_at {α : Type} {k : Nat} (f : α → List Value) (hl : ∀ x, (f x).length = k) : ∀ (l : List α) (i r : Nat) (h : i < l.length), r < k → (l.flatMap f)[i * k + r]? = (f l[i])[r]?
  | [], i, r, h, _ => absurd h (Nat.not_lt_zero _)
  | x :: l, 0, r, h, hr => by
    rw [List.flatMap_cons, Nat.zero_mul, Nat.zero_add, List.getElem?_append_left (by rw [hl]; exact hr)]
    rfl
  | x :: l, i + 1, r, h, hr => by
    rw [List.flatMap_cons, List.getElem?_append_right (by rw [hl, Nat.succ_mul]; omega), hl]
    rw [show (i + 1) * k + r - k = i * k + r by rw [Nat.succ_mul]; omega]
    exact flatL_at f hl l i r (by simpa using h) hr
theorem ownsRow_cell {w : World} {B : Nat} {e : TypeId} {k g n cap : Nat} {xs : List Value} (h : w.ownsRow B e k (.slice (some ⟨g, 0, none⟩) n cap) n xs) {j : Nat} {v : Value} (hv : xs[j]? = some v) : w.cell? ⟨g, j, none⟩ = some v := by
  rcases h.2 with ⟨h1, _⟩ | ⟨g', cap', cur, h1, _, hg, _, _, _, ht⟩
  · cases h1
  · cases h1
    rw [← ht] at hv
    have hlt := (List.getElem?_eq_some_iff.1 hv).1
    rw [List.length_take] at hlt
    rw [List.getElem?_take_of_lt (by omega), Array.getElem?_toList] at hv
    exact cell_of hg hv
theorem ownsRow_form {w : World} {B : Nat} {e : TypeId} {k n : Nat} {v : Value} {xs : List Value} (h : w.ownsRow B e k v n xs) : (v = .slice none 0 0 ∧ n = 0) ∨ ∃ g cap, v = .slice (some ⟨g, 0, none⟩) n cap ∧ n ≤ cap ∧ cap ≤ maxLen := by
  rcases h.2 with h1 | ⟨g, cap, cur, h1, _, _, hc, hm, _⟩
  · exact .inl h1
  · exact .inr ⟨g, cap, h1, hc, hm⟩

theorem idxR_zero (a : Option Addr) (c : Nat) (fv : Value) (w : World) : Calls Try.prog 68 #[.slice a 0 c, fv] w fun e w' => e = .returned (.int .i64 (-1)) ∧ w = w' := by
  go_enter Try.func68, Try.ntmps68
  go_wp2_with fail
  go_loopw [8] (fun vi wr => vi = .int .i64 0 ∧ w = wr) (fun _ _ => 0)
  case atStart => exact ⟨rfl, rfl⟩
  case round =>
    obtain ⟨rfl, rfl⟩ := hrel
    go_wp2_with fail
    go_ret
    exact ⟨rfl, rfl⟩
theorem anyR_zero (a : Option Addr) (c : Nat) (fv : Value) (w : World) : Calls Try.prog 39 #[.slice a 0 c, fv] w fun e w' => e = .returned (.bool false) ∧ w = w' := by
  go_enter Try.func39, Try.ntmps39
  go_wp2_with fail
  refine (idxR_zero a c fv w).mono ?_
  rintro e w' ⟨rfl, rfl⟩
  go_wp2_with fail
  go_ret
  exact ⟨rfl, rfl⟩

theorem enters40 : ∀ args w, (callFunc 40 args).run Try.prog w = .ok (.enter 40 args) w := fun args w => by kernel_rfl
theorem enters41 : ∀ args w, (callFunc 41 args).run Try.prog w = .ok (.enter 41 args) w := fun args w => by kernel_rfl

instance : Inhabited RepoH := ⟨⟨⟨#[]⟩, 0, false⟩⟩

/-- Is one of the repositories such? -/
theorem anyR_c (rs : List RepoH) (v : Value) (B : Nat) (w : World) (h : w.ownsRow B 34 4 v rs.length (rs.flatMap repoCells)) (hn : rs.length ≤ 8) (p : RepoH → Bool) (g : Nat) (lb : Array Value) (eg : ∀ args w, (callFunc g args).run Try.prog w = .ok (.enter g args) w)
    (hp : PredBelow Try.prog g lb (fun x => .agg (repoCells x).toArray) p w) :
    Calls Try.prog 39 #[v, .func (.func g) #[] lb] w fun e w' => e = .returned (.bool (rs.any p)) ∧ Below w.heap.size w w' := by
  rcases ownsRow_form h with ⟨rfl, h0⟩ | ⟨b, cap, rfl, hc, hm⟩
  · have : rs = [] := List.eq_nil_of_length_eq_zero h0
    subst this
    exact (anyR_zero none 0 _ w).mono fun e w' ⟨h1, h2⟩ => ⟨h1, by subst h2; exact Below.refl _ _⟩
  · by_cases h0 : rs.length = 0
    · have : rs = [] := List.eq_nil_of_length_eq_zero h0
      subst this
      exact (anyR_zero _ _ _ w).mono fun e w' ⟨h1, h2⟩ => ⟨h1, by subst h2; exact Below.refl _ _⟩
    · have hc : ∀ j, j < rs.length → ∀ i v, (repoCells rs[j]!)[i]? = some v → w.cell? ⟨b, 0 + j * 4 + i, none⟩ = some v := by
        intro j hj i v hv
        have hi : i < 4 := (List.getElem?_eq_some_iff.1 hv).1
        rw [getElem!_pos rs j hj, ← flatL_at repoCells (fun _ => rfl) rs j i hj hi] at hv
        rw [Nat.zero_add]
        exact ownsRow_cell h hv
      have hb : b < w.heap.size := by
        have := h.lt b rfl
        exact this.2
      have := AnyQ.slices_ContainsFunc Try.layAnyR 4 Try.isAgg34 Try.sizeOf34 repoCells (fun _ => rfl) p g lb eg b 0 rs.length cap rs w hp (Nat.le_refl _) (by omega) hb hc
      rw [List.take_length] at this
      exact this

theorem beqS {a b : ByteArray} : (a.toList == b.toList) = decide (a = b) := by
  by_cases h : a = b
  · subst h; simp
  · rw [decide_eq_false h]
    have h' : ¬ a.toList = b.toList := fun e => h (by
      have : bs a = bs b := by rw [← bs_toList, ← bs_toList, e]
      have e2 : a.data = b.data := by
        have : a.data.toList = b.data.toList := this
        exact Array.toList_inj.1 this
      cases a; cases b; cases e2; rfl)
    simpa using h'

set_option maxHeartbeats 1000000 in
/-- The closure: a repository of that name. -/
theorem sameName_at (nm : ByteArray) (b : Nat) (w : World) (hb : b < w.heap.size) (hc : w.cell? ⟨b, 0, none⟩ = some (.string nm)) :
    PredBelow Try.prog 40 #[.pointer (some ⟨b, 0, none⟩)] (fun x => .agg (repoCells x).toArray) (fun x => decide (x.name = nm)) w := by
  intro W x hB
  have q0 : W.cell? ⟨b, 0, none⟩ = some (.string nm) := (hB.cell (p := ⟨b, 0, none⟩) hb).trans hc
  show Calls Try.prog 40 #[.agg #[.string x.name, .int .i64 x.prio, .bool x.inst, .slice none 0 0], .pointer (some ⟨b, 0, none⟩)] W fun e w' => e = .returned (.bool (decide (x.name = nm))) ∧ Below w.heap.size w w'
  have hlt : b < W.heap.size := Nat.lt_of_lt_of_le hb hB.size
  obtain ⟨w1, e1⟩ : ∃ w1, W.alloc (.cells #[.string x.name, .int .i64 x.prio, .bool x.inst, .slice none 0 0] 34) = w1 := ⟨_, rfl⟩
  have HB1 : Hid (Below W.heap.size W w1 ∧ BoxN w1 W.heap.size [.string x.name, .int .i64 x.prio, .bool x.inst, .slice none 0 0] 34) := by
    rw [← e1]
    exact ⟨below1 _ _, boxN_alloc _ _ _⟩
  have p0 := HB1.out.2.cell (j := 0) rfl
  have q1 : w1.cell? ⟨b, 0, none⟩ = some (.string nm) := (HB1.out.1.cell (p := ⟨b, 0, none⟩) hlt).trans q0
  have HBB : Hid (Below w.heap.size w w1) := hB.trans (below_to HB1.out.1 hB.size)
  rw [← beqS]
  clear hB hc q0 hb hlt
  go_enter Try.func40, Try.ntmps40
  go_wp2_with fail
  go_ret
  exact ⟨rfl, HBB.out⟩

set_option maxHeartbeats 1000000 in
/-- The closure: an installed one. -/
theorem isInst_at (w : World) : PredBelow Try.prog 41 #[] (fun x => .agg (repoCells x).toArray) (fun x => x.inst) w := by
  intro W x hB
  show Calls Try.prog 41 #[.agg #[.string x.name, .int .i64 x.prio, .bool x.inst, .slice none 0 0]] W fun e w' => e = .returned (.bool x.inst) ∧ Below w.heap.size w w'
  obtain ⟨w1, e1⟩ : ∃ w1, W.alloc (.cells #[.string x.name, .int .i64 x.prio, .bool x.inst, .slice none 0 0] 34) = w1 := ⟨_, rfl⟩
  have HB1 : Hid (Below W.heap.size W w1 ∧ BoxN w1 W.heap.size [.string x.name, .int .i64 x.prio, .bool x.inst, .slice none 0 0] 34) := by
    rw [← e1]
    exact ⟨below1 _ _, boxN_alloc _ _ _⟩
  have p2 := HB1.out.2.cell (j := 2) rfl
  have HBB : Hid (Below w.heap.size w w1) := hB.trans (below_to HB1.out.1 hB.size)
  clear hB
  go_enter Try.func41, Try.ntmps41
  go_wp2_with fail
  go_ret
  exact ⟨rfl, HBB.out⟩
end Go.Proofs.Ytgeimldijagkkaa
