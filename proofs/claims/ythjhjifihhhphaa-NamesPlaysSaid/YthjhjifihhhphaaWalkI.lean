/-
  One call of both tables. Helper text; the conditions are those typed.
-/
import Derived.Test.YthjhjifihhhphaaWalkH
namespace Go.Proofs.Ythjhjifihhhphaa
set_option linter.unusedVariables false
set_option linter.unusedSimpArgs false
open Go.RowKit Go.Maps

/-- Both tables, made since w0, apart; nothing that was there has turned. -/
def Pair (w0 : World) (bt bm : Nat) (t m : Tab) (w : World) : Prop :=
  ∃ St Sm, TabAt w bt t St ∧ RefAt w bm m Sm ∧ (∀ k, St k → ¬ Sm k) ∧ Chg (fun _ => False) w0 w ∧ (∀ k, St k → w0.heap.size ≤ k) ∧ (∀ k, Sm k → w0.heap.size ≤ k)

/-- .. and block p, apart from both, holds the cells cs. -/
def PairO (w0 : World) (bt bm : Nat) (p : Nat) (cs : Array Value) (t m : Tab) (w : World) : Prop :=
  ∃ St Sm, TabAt w bt t St ∧ RefAt w bm m Sm ∧ (∀ k, St k → ¬ Sm k) ∧ Chg (fun _ => False) w0 w ∧ (∀ k, St k → w0.heap.size ≤ k) ∧ (∀ k, Sm k → w0.heap.size ≤ k) ∧
    w.heap[p]? = some (.cells cs 45 (0, 0)) ∧ ¬ St p ∧ ¬ Sm p

theorem PairO.pair {w0 w : World} {bt bm p : Nat} {cs : Array Value} {t m : Tab} (h : PairO w0 bt bm p cs t m w) : Pair w0 bt bm t m w := by
  obtain ⟨St, Sm, h1, h2, h3, h4, h5, h6, _⟩ := h
  exact ⟨St, Sm, h1, h2, h3, h4, h5, h6⟩

theorem Pair.keep {w0 w w' : World} {bt bm : Nat} {t m : Tab} (h : Pair w0 bt bm t m w) (hc : Chg (fun _ => False) w w') : Pair w0 bt bm t m w' := by
  obtain ⟨St, Sm, h1, h2, h3, h4, h5, h6⟩ := h
  exact ⟨St, Sm, h1.chg hc (fun _ _ h => h), h2.chg hc (fun _ _ h => h), h3, h4.trans hc (fun _ _ h => h.elim), h5, h6⟩

theorem Pair.box {w0 w : World} {bt bm : Nat} {t m : Tab} (h : Pair w0 bt bm t m w) (cs : Array Value) : PairO w0 bt bm w.heap.size cs t m (w.alloc (.cells cs 45)) := by
  obtain ⟨St, Sm, h1, h2, h3, h4, h5, h6⟩ := h
  have hc := (Chg.refl (fun _ => False) w).alloc (.cells cs 45)
  exact ⟨St, Sm, h1.chg hc (fun _ _ h => h), h2.chg hc (fun _ _ h => h), h3, h4.trans hc (fun _ _ h => h.elim), h5, h6, heap_alloc_new w _, fun hs => Nat.lt_irrefl _ (h1.lt _ hs), fun hs => Nat.lt_irrefl _ (h2.lt _ hs)⟩

theorem PairO.keep {w0 w w' : World} {bt bm p : Nat} {cs : Array Value} {t m : Tab} (h : PairO w0 bt bm p cs t m w) (hc : Chg (fun _ => False) w w') : PairO w0 bt bm p cs t m w' := by
  obtain ⟨St, Sm, h1, h2, h3, h4, h5, h6, h7, h8, h9⟩ := h
  exact ⟨St, Sm, h1.chg hc (fun _ _ h => h), h2.chg hc (fun _ _ h => h), h3, h4.trans hc (fun _ _ h => h.elim), h5, h6, (hc.block p (lt_of_block h7) (fun h => h)).trans h7, h8, h9⟩

theorem PairO.blk {w0 w : World} {bt bm p : Nat} {cs : Array Value} {t m : Tab} (h : PairO w0 bt bm p cs t m w) : w.heap[p]? = some (.cells cs 45 (0, 0)) := by
  obtain ⟨St, Sm, h1, h2, h3, h4, h5, h6, h7, h8, h9⟩ := h
  exact h7

theorem PairO.tab {w0 w : World} {bt bm p : Nat} {cs : Array Value} {t m : Tab} (h : PairO w0 bt bm p cs t m w) : ∃ S, TabAt w bt t S := by
  obtain ⟨St, Sm, h1, h2, h3, h4, h5, h6, h7, h8, h9⟩ := h
  exact ⟨_, h1⟩
theorem PairO.ref {w0 w : World} {bt bm p : Nat} {cs : Array Value} {t m : Tab} (h : PairO w0 bt bm p cs t m w) : ∃ S, RefAt w bm m S := by
  obtain ⟨St, Sm, h1, h2, h3, h4, h5, h6, h7, h8, h9⟩ := h
  exact ⟨_, h2⟩
theorem Pair.tab {w0 w : World} {bt bm : Nat} {t m : Tab} (h : Pair w0 bt bm t m w) : ∃ S, TabAt w bt t S := by
  obtain ⟨St, Sm, h1, h2, h3, h4, h5, h6⟩ := h
  exact ⟨_, h1⟩
theorem Pair.ref {w0 w : World} {bt bm : Nat} {t m : Tab} (h : Pair w0 bt bm t m w) : ∃ S, RefAt w bm m S := by
  obtain ⟨St, Sm, h1, h2, h3, h4, h5, h6⟩ := h
  exact ⟨_, h2⟩
theorem Pair.chg {w0 w : World} {bt bm : Nat} {t m : Tab} (h : Pair w0 bt bm t m w) : Chg (fun _ => False) w0 w := by
  obtain ⟨St, Sm, h1, h2, h3, h4, h5, h6⟩ := h
  exact h4

theorem add_pair {w0 w : World} {bt bm p : Nat} {cs : Array Value} {t m : Tab} (h : PairO w0 bt bm p cs t m w) (s : ByteArray) (hs : s.size ≤ maxLen) :
    Calls Try.prog 10 #[.pointer (some ⟨bt, 0, none⟩), .string s] w fun e w' => e = .returned (.tuple #[.int .i64 (t.addRes s).1, .int .i64 (t.addRes s).2]) ∧ PairO w0 bt bm p cs (t.add s) m w' := by
  obtain ⟨St, Sm, h1, h2, h3, h4, h5, h6, h7, h8, h9⟩ := h
  refine (add_in h1 s hs).mono fun e w' ⟨he, S', k1, k2, k3⟩ => ⟨he, S', Sm, k1, h2.chg k2 (fun k hm ht => h3 k ht hm), ?_, h4.trans k2 (fun k hk ht => by have := h5 k ht; omega), ?_, h6, (k2.block p (lt_of_block h7) h8).trans h7, ?_, h9⟩
  · intro k hk hm
    rcases k3 k hk with h | h
    · exact h3 k h hm
    · have := h2.lt k hm; omega
  · intro k hk
    rcases k3 k hk with h | h
    · exact h5 k h
    · have := h4.size; omega
  · intro hk
    rcases k3 p hk with h | h
    · exact h8 h
    · have := lt_of_block h7; omega

theorem radd_pair {w0 w : World} {bt bm p : Nat} {cs : Array Value} {t m : Tab} (h : PairO w0 bt bm p cs t m w) (s : ByteArray) (hs : s.size ≤ maxLen) :
    Calls Try.prog 20 #[.pointer (some ⟨bm, 0, none⟩), .string s] w fun e w' => e = .returned (.tuple #[.int .i64 (m.addRes s).1, .int .i64 (m.addRes s).2]) ∧ PairO w0 bt bm p cs t (m.add s) w' := by
  obtain ⟨St, Sm, h1, h2, h3, h4, h5, h6, h7, h8, h9⟩ := h
  refine (radd_in h2 s hs).mono fun e w' ⟨he, S', k1, k2, k3⟩ => ⟨he, St, S', h1.chg k2 (fun k ht hm => h3 k ht hm), k1, ?_, h4.trans k2 (fun k hk ht => by have := h6 k ht; omega), h5, ?_, (k2.block p (lt_of_block h7) h9).trans h7, h8, ?_⟩
  · intro k ht hk
    rcases k3 k hk with h | h
    · exact h3 k ht h
    · have := h1.lt k ht; omega
  · intro k hk
    rcases k3 k hk with h | h
    · exact h6 k h
    · have := h4.size; omega
  · intro hk
    rcases k3 p hk with h | h
    · exact h9 h
    · have := lt_of_block h7; omega

theorem rel_pair {w0 w : World} {bt bm p : Nat} {cs : Array Value} {t m : Tab} (h : PairO w0 bt bm p cs t m w) (x op y : Int) :
    Calls Try.prog 11 #[.pointer (some ⟨bt, 0, none⟩), .int .i64 x, .int .i64 op, .int .i64 y] w fun e w' => e = .returned (.tuple #[.int .i64 (t.relRes x op y).1, .int .i64 (t.relRes x op y).2]) ∧ PairO w0 bt bm p cs (t.rel x op y) m w' := by
  obtain ⟨St, Sm, h1, h2, h3, h4, h5, h6, h7, h8, h9⟩ := h
  refine (rel_in h1 x op y).mono fun e w' ⟨he, S', k1, k2, k3⟩ => ⟨he, S', Sm, k1, h2.chg k2 (fun k hm ht => h3 k ht hm), ?_, h4.trans k2 (fun k hk ht => by have := h5 k ht; omega), ?_, h6, (k2.block p (lt_of_block h7) h8).trans h7, ?_, h9⟩
  · intro k hk hm
    rcases k3 k hk with h | h
    · exact h3 k h hm
    · have := h2.lt k hm; omega
  · intro k hk
    rcases k3 k hk with h | h
    · exact h5 k h
    · have := h4.size; omega
  · intro hk
    rcases k3 p hk with h | h
    · exact h8 h
    · have := lt_of_block h7; omega

theorem rrel_pair {w0 w : World} {bt bm p : Nat} {cs : Array Value} {t m : Tab} (h : PairO w0 bt bm p cs t m w) (x op y : Int) :
    Calls Try.prog 22 #[.pointer (some ⟨bm, 0, none⟩), .int .i64 x, .int .i64 op, .int .i64 y] w fun e w' => e = .returned (.tuple #[.int .i64 (m.relRes x op y).1, .int .i64 (m.relRes x op y).2]) ∧ PairO w0 bt bm p cs t (m.rel x op y) w' := by
  obtain ⟨St, Sm, h1, h2, h3, h4, h5, h6, h7, h8, h9⟩ := h
  refine (rrel_in h2 x op y).mono fun e w' ⟨he, S', k1, k2, k3⟩ => ⟨he, St, S', h1.chg k2 (fun k ht hm => h3 k ht hm), k1, ?_, h4.trans k2 (fun k hk ht => by have := h6 k ht; omega), h5, ?_, (k2.block p (lt_of_block h7) h9).trans h7, h8, ?_⟩
  · intro k ht hk
    rcases k3 k hk with h | h
    · exact h3 k ht h
    · have := h1.lt k ht; omega
  · intro k hk
    rcases k3 k hk with h | h
    · exact h6 k h
    · have := h4.size; omega
  · intro hk
    rcases k3 p hk with h | h
    · exact h9 h
    · have := lt_of_block h7; omega

/-- What one call of both leaves: both say the same again. -/
def Asked (w0 : World) (bt bm : Nat) (e : Ending) (w : World) : Prop := e = .returned (.bool true) ∧ ∃ t, Pair w0 bt bm t t w

abbrev opV (kind : Int) (s : ByteArray) (a b c : Int) : Value := .agg #[.int .i64 kind, .string s, .int .i64 a, .int .i64 b, .int .i64 c]

set_option maxRecDepth 1000000 in
set_option maxHeartbeats 1000000 in
theorem asked_add {w0 w : World} {bt bm : Nat} {t : Tab} (h : Pair w0 bt bm t t w) (s : ByteArray) (hs : s.size ≤ maxLen) (a b c : Int) :
    Calls Try.prog 16 #[.pointer (some ⟨bt, 0, none⟩), .pointer (some ⟨bm, 0, none⟩), opV 1 s a b c] w (Asked w0 bt bm) := by
  have H := Lib.hid (h.box #[.int .i64 1, .string s, .int .i64 a, .int .i64 b, .int .i64 c])
  clear h
  go_enter Try.func16, Try.ntmps16
  go_wp2_with fail
  refine (add_pair H.out s hs).mono ?_
  rintro e w1 ⟨rfl, h1⟩
  have H1 := Lib.hid h1
  have B1 := cell_of_blk h1.blk 1 rfl
  clear h1
  go_wp2_with fail
  refine (radd_pair H1.out s hs).mono ?_
  rintro e w2 ⟨rfl, h2⟩
  have H2 := Lib.hid h2
  clear h2
  go_wp2
  go_ret
  exact ⟨by simp, _, H2.out.pair⟩

set_option maxRecDepth 1000000 in
set_option maxHeartbeats 1000000 in
theorem asked_rel {w0 w : World} {bt bm : Nat} {t : Tab} (h : Pair w0 bt bm t t w) (s : ByteArray) (a b c : Int) :
    Calls Try.prog 16 #[.pointer (some ⟨bt, 0, none⟩), .pointer (some ⟨bm, 0, none⟩), opV 4 s a b c] w (Asked w0 bt bm) := by
  have H := Lib.hid (h.box #[.int .i64 4, .string s, .int .i64 a, .int .i64 b, .int .i64 c])
  clear h
  go_enter Try.func16, Try.ntmps16
  go_wp2_with fail
  refine (rel_pair H.out a b c).mono ?_
  rintro e w1 ⟨rfl, h1⟩
  have H1 := Lib.hid h1
  have B2 := cell_of_blk h1.blk 2 rfl
  have B3 := cell_of_blk h1.blk 3 rfl
  have B4 := cell_of_blk h1.blk 4 rfl
  clear h1
  go_wp2_with fail
  refine (rrel_pair H1.out a b c).mono ?_
  rintro e w2 ⟨rfl, h2⟩
  have H2 := Lib.hid h2
  clear h2
  go_wp2
  go_ret
  exact ⟨by simp, _, H2.out.pair⟩

set_option maxRecDepth 1000000 in
set_option maxHeartbeats 1000000 in
theorem asked_find {w0 w : World} {bt bm : Nat} {t : Tab} (h : Pair w0 bt bm t t w) (s : ByteArray) (hs : s.size ≤ maxLen) (a b c : Int) :
    Calls Try.prog 16 #[.pointer (some ⟨bt, 0, none⟩), .pointer (some ⟨bm, 0, none⟩), opV 2 s a b c] w (Asked w0 bt bm) := by
  have H := Lib.hid (h.box #[.int .i64 2, .string s, .int .i64 a, .int .i64 b, .int .i64 c])
  clear h
  go_enter Try.func16, Try.ntmps16
  go_wp2_with fail
  obtain ⟨S, ht⟩ := H.out.tab
  refine (find_in ht s hs).mono ?_
  rintro e w1 ⟨rfl, rfl⟩
  clear ht
  go_wp2_with fail
  obtain ⟨S, ht⟩ := H.out.ref
  refine (rfind_in ht s).mono ?_
  rintro e w1 ⟨rfl, rfl⟩
  clear ht
  go_wp2
  go_ret
  exact ⟨by simp, _, H.out.pair⟩

set_option maxRecDepth 1000000 in
set_option maxHeartbeats 1000000 in
theorem asked_other {w0 w : World} {bt bm : Nat} {t : Tab} (h : Pair w0 bt bm t t w) (kind : Int) (s : ByteArray) (a b c : Int) (h1 : kind ≠ 1) (h2 : kind ≠ 2) (h3 : kind ≠ 3) (h4 : kind ≠ 4) (h5 : kind ≠ 5) :
    Calls Try.prog 16 #[.pointer (some ⟨bt, 0, none⟩), .pointer (some ⟨bm, 0, none⟩), opV kind s a b c] w (Asked w0 bt bm) := by
  have H := Lib.hid (h.box #[.int .i64 kind, .string s, .int .i64 a, .int .i64 b, .int .i64 c])
  clear h
  have h1 : (kind == 1) = false := by simpa using h1
  have h2 : (kind == 2) = false := by simpa using h2
  have h3 : (kind == 3) = false := by simpa using h3
  have h4 : (kind == 4) = false := by simpa using h4
  have h5 : (kind == 5) = false := by simpa using h5
  go_enter Try.func16, Try.ntmps16
  go_wp2
  go_ret
  exact ⟨by simp, _, H.out.pair⟩
end Go.Proofs.Ythjhjifihhhphaa
