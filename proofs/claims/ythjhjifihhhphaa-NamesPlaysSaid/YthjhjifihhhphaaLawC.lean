/-
  The walk of NamesStay. Helper text; the conditions are those typed.
-/
import Derived.Test.YthjhjifihhhphaaLawB
namespace Go.Proofs.Ythjhjifihhhphaa
set_option linter.unusedVariables false
set_option linter.unusedSimpArgs false
open Go.RowKit Go.Maps

/-- The table in block b, and beside it a slice of integers of the call's own. -/
def StayAt (w0 : World) (b : Nat) (t : Tab) (gv : Value) (G : List Int) (w : World) : Prop :=
  ∃ S, TabAt w b t S ∧ Chg (fun _ => False) w0 w ∧ (∀ k, S k → w0.heap.size ≤ k) ∧ w.ownsRow 0 3 1 gv G.length (G.map (Value.int .i64)) ∧ ∀ g, gv.ownBlock = some g → ¬ S g ∧ w0.heap.size ≤ g

theorem StayAt.chg {w0 w : World} {b : Nat} {t : Tab} {gv : Value} {G : List Int} (h : StayAt w0 b t gv G w) : Chg (fun _ => False) w0 w := by
  obtain ⟨S, h1, h2, _⟩ := h
  exact h2
theorem StayAt.row {w0 w : World} {b : Nat} {t : Tab} {gv : Value} {G : List Int} (h : StayAt w0 b t gv G w) : w.ownsRow 0 3 1 gv G.length (G.map (Value.int .i64)) := by
  obtain ⟨S, h1, h2, h3, h4, _⟩ := h
  exact h4
theorem StayAt.ok {w0 w : World} {b : Nat} {t : Tab} {gv : Value} {G : List Int} (h : StayAt w0 b t gv G w) : t.Ok := by
  obtain ⟨S, h1, _⟩ := h
  exact h1.ok
theorem StayAt.drewN {w0 w : World} {b : Nat} {t : Tab} {gv : Value} {G : List Int} (h : StayAt w0 b t gv G w) (n : Nat) : StayAt w0 b t gv G (w.drewN n) := by
  obtain ⟨S, h1, h2, h3, h4, h5⟩ := h
  exact ⟨S, h1.kept (Nat.le_refl _) (fun _ _ => rfl), h2.drewN n, h3, ownsRow_block h4 (fun _ _ => rfl), h5⟩

theorem StayAt.post {w0 w w' : World} {b : Nat} {t t' : Tab} {gv : Value} {G : List Int} {S : Nat → Prop} (hc : Chg (fun _ => False) w0 w) (hs : ∀ k, S k → w0.heap.size ≤ k) (hr : w.ownsRow 0 3 1 gv G.length (G.map (Value.int .i64))) (hd : ∀ g, gv.ownBlock = some g → ¬ S g ∧ w0.heap.size ≤ g)
    (h : TabPost w S b t' w') : StayAt w0 b t' gv G w' := by
  obtain ⟨S', h1, h2, h3⟩ := h
  refine ⟨S', h1, hc.trans h2 (fun i hi hk => by have := hs i hk; omega), fun k hk => ?_, ownsRow_block hr (fun g hg => h2.block g (hr.lt g hg).2 (hd g hg).1), fun g hg => ⟨fun hk => ?_, (hd g hg).2⟩⟩
  · rcases h3 k hk with h | h
    · exact hs k h
    · have := hc.size; omega
  · rcases h3 g hk with h | h
    · exact (hd g hg).1 h
    · have := (hr.lt g hg).2; omega

theorem add_stay {w0 w : World} {b : Nat} {t : Tab} {gv : Value} {G : List Int} (h : StayAt w0 b t gv G w) (s : ByteArray) (hs : s.size ≤ maxLen) :
    Calls Try.prog 10 #[.pointer (some ⟨b, 0, none⟩), .string s] w fun e w' => e = .returned (.tuple #[.int .i64 (t.addRes s).1, .int .i64 (t.addRes s).2]) ∧ StayAt w0 b (t.add s) gv G w' := by
  obtain ⟨S, h1, h2, h3, h4, h5⟩ := h
  exact (add_in h1 s hs).mono fun _ _ ⟨he, hp⟩ => ⟨he, StayAt.post (t := t) h2 h3 h4 h5 hp⟩

theorem rel_stay {w0 w : World} {b : Nat} {t : Tab} {gv : Value} {G : List Int} (h : StayAt w0 b t gv G w) (x op y : Int) :
    Calls Try.prog 11 #[.pointer (some ⟨b, 0, none⟩), .int .i64 x, .int .i64 op, .int .i64 y] w fun e w' => e = .returned (.tuple #[.int .i64 (t.relRes x op y).1, .int .i64 (t.relRes x op y).2]) ∧ StayAt w0 b (t.rel x op y) gv G w' := by
  obtain ⟨S, h1, h2, h3, h4, h5⟩ := h
  exact (rel_in h1 x op y).mono fun _ _ ⟨he, hp⟩ => ⟨he, StayAt.post (t := t) h2 h3 h4 h5 hp⟩

theorem find_stay {w0 w : World} {b : Nat} {t : Tab} {gv : Value} {G : List Int} (h : StayAt w0 b t gv G w) (s : ByteArray) (hs : s.size ≤ maxLen) :
    Calls Try.prog 13 #[.pointer (some ⟨b, 0, none⟩), .string s] w fun e w' => e = .returned (.tuple #[.int .i64 (t.find s).1, .bool (t.find s).2]) ∧ w = w' := by
  obtain ⟨S, h1, _⟩ := h
  exact find_in h1 s hs
theorem name_stay {w0 w : World} {b : Nat} {t : Tab} {gv : Value} {G : List Int} (h : StayAt w0 b t gv G w) (i : Int) :
    Calls Try.prog 14 #[.pointer (some ⟨b, 0, none⟩), .int .i64 i] w fun e w' => e = .returned (.tuple #[.string (t.name i).1, .int .i64 (t.name i).2]) ∧ w = w' := by
  obtain ⟨S, h1, _⟩ := h
  exact name_in h1 i

/-- append to the slice beside. -/
theorem StayAt.app {w0 w w1 : World} {b : Nat} {t : Tab} {gv gv' : Value} {G : List Int} {n : Int} {o : Obj} (h : StayAt w0 b t gv G w) (hg : (w.alloc o).grownBy w1 gv.ownBlock) (hr : w1.ownsRow 0 3 1 gv' (G.length + 1) (G.map (Value.int .i64) ++ [.int .i64 n]))
    (hl : gv'.ownBlock = gv.ownBlock ∨ gv'.ownBlock = some (w.alloc o).heap.size) : StayAt w0 b t gv' (G ++ [n]) w1 := by
  obtain ⟨S, h1, h2, h3, h4, h5⟩ := h
  have hz := hg.size
  simp only [World.size_alloc] at hz hl
  refine ⟨S, h1.kept (by omega) (fun k hk => ?_), ?_, h3, by simpa using hr, fun g hg' => ?_⟩
  · have hlt := h1.lt k hk
    rw [hg.block k (by simp; omega) (fun e => (h5 k e.symm).1 hk), Below.heap_alloc _ _ _ hlt]
  · exact (h2.alloc o).grown hg (fun k hk hlt => by have := (h5 k hk).2; omega)
  · rcases hl with e | e
    · rw [hg'] at e
      exact h5 g e.symm
    · rw [hg'] at e
      have e := Option.some.inj e
      refine ⟨fun hk => ?_, ?_⟩
      · have := h1.lt g hk; omega
      · have := h2.size; omega

/-- What holds of the numbers given so far. -/
def Given (t : Tab) (l : List ByteArray) (G : List Int) : Prop :=
  G.length ≤ l.length ∧ ∀ i, i < G.length → G[i]? = some (-1) ∨ ∃ (m : Nat) (s : ByteArray), G[i]? = some (m : Int) ∧ l[i]? = some s ∧ pos t.names s = some m

theorem Given.keep {t t' : Tab} {l : List ByteArray} {G : List Int} (h : Given t l G) (hk : ∀ s m, pos t.names s = some m → pos t'.names s = some m) : Given t' l G := by
  refine ⟨h.1, fun i hi => ?_⟩
  rcases h.2 i hi with h1 | ⟨m, s, h1, h2, h3⟩
  · exact .inl h1
  · exact .inr ⟨m, s, h1, h2, hk s m h3⟩

theorem Given.snoc {t : Tab} {l : List ByteArray} {G : List Int} (h : Given t l G) (hk : G.length < l.length) {n : Int} (hn : n = -1 ∨ ∃ m : Nat, n = m ∧ pos t.names l[G.length] = some m) : Given t l (G ++ [n]) := by
  refine ⟨by simp; omega, fun i hi => ?_⟩
  by_cases hi' : i < G.length
  · rcases h.2 i hi' with h1 | ⟨m, s, h1, h2, h3⟩
    · exact .inl (by rw [List.getElem?_append_left hi']; exact h1)
    · exact .inr ⟨m, s, by rw [List.getElem?_append_left hi']; exact h1, h2, h3⟩
  · have hie : i = G.length := by simp at hi; omega
    subst hie
    rcases hn with rfl | ⟨m, rfl, hp⟩
    · exact .inl (by simp)
    · exact .inr ⟨m, l[G.length], by simp, by simp [hk], hp⟩
end Go.Proofs.Ythjhjifihhhphaa
