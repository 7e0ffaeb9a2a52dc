/-
  Pools that are given repositories, one after the other: the plain laws; lists of repositories that came in. Helper text; the conditions are those typed.
-/
import Derived.Test.YtbdankpkdhhlmaaGreatPkgA
import Derived.Test.YtbdankpkdhhlmaaGreatAddC
import Derived.Test.YtbdankpkdhhlmaaGreatArgRepo
namespace Go.Proofs.YtbdankpkdhhlmaaGreat
set_option linter.unusedVariables false
set_option linter.unusedSimpArgs false
open Go.ChangeShapes Go.WideShapes Go.RowKit Go.Maps

/-- What a pool's lists always are. -/
def PoolOK (rs : List RepoH) (ks : List KeptT) : Prop := rs.length ≤ 8 ∧ ks.length ≤ 200 ∧ ∀ k ∈ ks, pkgCheck k.pkg = 0 ∧ Fits k.pkg ∧ k.at_ < rs.length
def addR (rs : List RepoH) (ks : List KeptT) (r : RepoT) : List RepoH := if addErr rs ks r = 0 then rs ++ [⟨r.name, r.prio, r.inst⟩] else rs
def addK (rs : List RepoH) (ks : List KeptT) (r : RepoT) : List KeptT := if addErr rs ks r = 0 then ks ++ r.pkgs.map (fun p => (⟨p, rs.length⟩ : KeptT)) else ks
theorem firstBad_zero : ∀ (l : List PkgT), firstBad l = 0 → ∀ p ∈ l, pkgCheck p = 0
  | [], _, p, hp => by cases hp
  | q :: l, h, p, hp => by
    by_cases h0 : pkgCheck q = 0
    · unfold firstBad at h
      rw [if_neg (fun h => h h0)] at h
      rcases List.mem_cons.1 hp with rfl | hp
      · exact h0
      · exact firstBad_zero l h p hp
    · unfold firstBad at h
      rw [if_pos h0] at h
      exact absurd h h0
theorem addErr_zero {rs : List RepoH} {ks : List KeptT} {r : RepoT} (h : addErr rs ks r = 0) : rs.length < 8 ∧ ks.length + r.pkgs.length ≤ 200 ∧ ∀ p ∈ r.pkgs, pkgCheck p = 0 := by
  unfold addErr at h
  split at h
  · cases h
  · split at h
    · cases h
    · split at h
      · cases h
      · rename_i h3
        exact ⟨by omega, by omega, firstBad_zero _ h⟩
theorem PoolOK.add {rs : List RepoH} {ks : List KeptT} (h : PoolOK rs ks) {r : RepoT} (hf : ∀ p ∈ r.pkgs, Fits p) : PoolOK (addR rs ks r) (addK rs ks r) := by
  unfold addR addK
  by_cases h0 : addErr rs ks r = 0
  · rw [if_pos h0, if_pos h0]
    obtain ⟨h1, h2, h3⟩ := addErr_zero h0
    refine ⟨by simp; omega, by simp; omega, fun k hk => ?_⟩
    rcases List.mem_append.1 hk with hk | hk
    · obtain ⟨a, b, c⟩ := h.2.2 k hk
      exact ⟨a, b, by simp; omega⟩
    · obtain ⟨p, hp, rfl⟩ := List.mem_map.1 hk
      exact ⟨h3 p hp, hf p hp, by simp⟩
  · rw [if_neg h0, if_neg h0]
    exact h
theorem PoolOK.nil : PoolOK [] [] := ⟨by decide, by decide, fun k hk => by cases hk⟩
theorem addK_old {rs : List RepoH} {ks : List KeptT} {r : RepoT} : ∃ more, addK rs ks r = ks ++ more ∧ (addErr rs ks r ≠ 0 → more = []) ∧ (addErr rs ks r = 0 → more.length = r.pkgs.length) := by
  unfold addK
  by_cases h0 : addErr rs ks r = 0
  · exact ⟨_, if_pos h0, fun h => absurd h0 h, fun _ => by simp⟩
  · exact ⟨[], by rw [if_neg h0, List.append_nil], fun _ => rfl, fun h => absurd h h0⟩

/-- The pool, its state. -/
def PoolAt (w : World) (B : Nat) (role : Nat → Role) (P M : Nat) (kd : Int) (rs : List RepoH) (ks : List KeptT) : Prop := (∃ vr va lv, PoolIn w B role P M vr va lv kd rs ks (ks.map fun k => k.pkg.name)) ∧ PoolOK rs ks
theorem PoolAt.below {w w' : World} {B : Nat} {role : Nat → Role} {P M : Nat} {kd : Int} {rs : List RepoH} {ks : List KeptT} (h : PoolAt w B role P M kd rs ks) (hb : Below w.heap.size w w') : PoolAt w' B role P M kd rs ks := by
  obtain ⟨⟨vr, va, lv, h1⟩, h2⟩ := h
  exact ⟨⟨vr, va, lv, h1.below hb⟩, h2⟩
theorem PoolAt.keep {w w' : World} {B : Nat} {role : Nat → Role} {P M : Nat} {kd : Int} {rs : List RepoH} {ks : List KeptT} (h : PoolAt w B role P M kd rs ks) (hs : w.heap.size ≤ w'.heap.size) (hk : ∀ b, role b ≠ .free → w'.heap[b]? = w.heap[b]?) : PoolAt w' B role P M kd rs ks := by
  obtain ⟨⟨vr, va, lv, h1⟩, h2⟩ := h
  exact ⟨⟨vr, va, lv, h1.keep hs hk⟩, h2⟩
theorem PoolAt.free {w : World} {B : Nat} {role : Nat → Role} {P M : Nat} {kd : Int} {rs : List RepoH} {ks : List KeptT} (h : PoolAt w B role P M kd rs ks) {b : Nat} (hb : w.heap.size ≤ b ∨ b < B) : role b = .free := by
  obtain ⟨⟨vr, va, lv, h1⟩, h2⟩ := h
  by_cases hr : role b = .free
  · exact hr
  · have h3 := h1.hi b hr
    have h4 := h1.lo b hr
    omega
theorem PoolAt.lt {w : World} {B : Nat} {role : Nat → Role} {P M : Nat} {kd : Int} {rs : List RepoH} {ks : List KeptT} (h : PoolAt w B role P M kd rs ks) : P < w.heap.size := by
  obtain ⟨⟨vr, va, lv, h1⟩, h2⟩ := h
  exact h1.box.lt

/-- Add, of the whole state. -/
theorem add_at {w : World} {B : Nat} {role : Nat → Role} {P M : Nat} {kd : Int} {rs : List RepoH} {ks : List KeptT} (h : PoolAt w B role P M kd rs ks) (hB : B ≤ w.heap.size) (r : RepoT) (ap : Option Addr) (np cp : Nat) (S : Nat → Prop) (hr : PkgsV w S r.pkgs (.slice ap np cp)) (hS : ∀ b, S b → role b = .free ∧ b < w.heap.size) (hf : ∀ p ∈ r.pkgs, Fits p) :
    Calls Tryz.prog 37 #[.pointer (some ⟨P, 0, none⟩), .agg #[.string r.name, .int .i64 r.prio, .bool r.inst, .slice ap np cp]] w fun e w' => e = .returned (.int .i64 (addErr rs ks r)) ∧ ∃ role', Moved role w role' w' ∧ PoolAt w' B role' P M kd (addR rs ks r) (addK rs ks r) := by
  obtain ⟨⟨vr, va, lv, h1⟩, h2⟩ := h
  refine (add_c B role P M vr va lv kd rs ks r ap np cp S w h1 hB h2.1 h2.2.1 hr hS).mono ?_
  rintro e w' ⟨he, role', vr', va', lv', hm, hp⟩
  exact ⟨he, role', hm, ⟨vr', va', lv', hp⟩, h2.add hf⟩

/-- Repositories that a slice value reads as. -/
def ReposV (w : World) (S : Nat → Prop) (l : List RepoT) (v : Value) : Prop := ∃ a c, v = .slice a l.length c ∧ l.length * 56 ≤ 140737488355328 ∧
  (l ≠ [] → ∃ b off, a = some ⟨b, off, none⟩ ∧ S b ∧ ∀ i (h : i < l.length), ∃ ap np cp, PkgsV w S l[i].pkgs (.slice ap np cp) ∧ CellsAt w b (off + i * 4) [.string l[i].name, .int .i64 l[i].prio, .bool l[i].inst, .slice ap np cp])
section
variable {H : Type} {enc : TypeId × Value → H} {w : World} {sp : Nat → Bool} {held : Bool}
set_option maxRecDepth 100000 in
theorem open_repos {fuel : Nat} {c : Value} {x : DataW H × List MemPlace} (h : DataW.trod enc Tryz.prog w 0 sp held fuel 31 [c] = some x) (hz : ∀ z ∈ x.1.weights Tryz.prog 31, z ≤ reachBytes) : ∃ l, ReposV w (· < w.heap.size) l c ∧ ∀ r ∈ l, ∀ p ∈ r.pkgs, Fits p := by
  rcases DataW.trod_slice Tryz.underlying31 h with ⟨e, _⟩ | ⟨a, len, cap, elems, rest, m, hf, hcs, hx, _, hl, hm, hle, he, _, _⟩
  · simp only [List.cons.injEq, and_true] at e
    subst e
    exact ⟨[], ⟨none, 0, rfl, by simp, fun h => absurd rfl h⟩, fun p hp => by cases hp⟩
  · simp only [List.cons.injEq, and_true] at hcs
    subst hcs
    have hw1 : (elems.length + rest.length) * 56 ≤ reachBytes := by
      have := hz ((elems.length + rest.length) * Tryz.prog.bytesOf 40) (by rw [hx]; simp only [DataW.weights, Tryz.underlying31]; rw [List.length_map, List.length_map]; exact List.mem_cons_self)
      generalize (elems.length + rest.length) = n at this ⊢
      rw [bytes34] at this
      exact this
    have hbulk : len * 56 ≤ 140737488355328 := by
      have : reachBytes = 140737488351232 := rfl
      omega
    have hone : ∀ i, i < len → ∃ (r : RepoT) (ap : Option Addr) (np cp : Nat), PkgsV w (· < w.heap.size) r.pkgs (.slice ap np cp) ∧ (∀ p ∈ r.pkgs, Fits p) ∧ ∀ j u, ([.string r.name, .int .i64 r.prio, .bool r.inst, .slice ap np cp] : List Value)[j]? = some u → w.cell? (a.add (i * 4 + j)) = some u := by
      intro i hi
      have h1 := he i hi
      rw [cells34] at h1
      have hel : i < elems.length := by omega
      rw [List.getElem?_eq_getElem hel] at h1
      cases hc : w.cells? 0 (a.add (i * 4)) 4 with
      | none => rw [hc] at h1; cases h1
      | some cs =>
        rw [hc] at h1
        replace h1 : DataW.trod enc Tryz.prog w 0 sp held m 40 cs = some elems[i] := h1
        obtain ⟨_, hlen, hcell⟩ := World.cells?_some hc
        obtain ⟨r, ap, np, cp, rfl, hp, s1, s2⟩ := open_repo h1 (fun z hz' => hz z (by
          rw [hx]
          simp only [DataW.weights, Tryz.underlying31, List.mem_cons, List.mem_append]
          right; left
          exact weights_all (List.mem_map_of_mem (List.getElem_mem hel)) z hz'))
        refine ⟨r, ap, np, cp, hp, s1, fun j u hj => ?_⟩
        have hj12 : j < 4 := (List.getElem?_eq_some_iff.1 hj).1
        have := hcell (i := j) hj12
        rw [hj] at this
        rw [← this, Addr.add_add]
    by_cases h0 : len = 0
    · subst h0
      exact ⟨[], ⟨some a, cap, rfl, by simp, fun h => absurd rfl h⟩, fun p hp => by cases hp⟩
    · obtain ⟨b, off, ea, hb⟩ : ∃ b off, a = ⟨b, off, none⟩ ∧ b < w.heap.size := by
        obtain ⟨r, ap, np, cp, _, _, hc⟩ := hone 0 (by omega)
        exact spot_none (hc 0 _ rfl) rfl
      subst ea
      have hone' : ∀ i, i < len → ∃ r : RepoT, (∃ ap np cp, PkgsV w (· < w.heap.size) r.pkgs (.slice ap np cp) ∧ CellsAt w b (off + i * 4) [.string r.name, .int .i64 r.prio, .bool r.inst, .slice ap np cp]) ∧ ∀ p ∈ r.pkgs, Fits p := fun i hi => by
        obtain ⟨r, ap, np, cp, h1, h2, h3⟩ := hone i hi
        refine ⟨r, ⟨ap, np, cp, h1, fun j u hj => ?_⟩, h2⟩
        have := h3 j u hj
        rw [addr_add] at this
        rwa [Nat.add_assoc]
      refine ⟨(List.finRange len).map (fun i : Fin len => (hone' i.val i.2).choose), ⟨some ⟨b, off, none⟩, cap, by simp, by simpa using hbulk, fun _ => ⟨b, off, rfl, hb, fun i hi => ?_⟩⟩, fun p hp => ?_⟩
      · have hi' : i < len := by simpa using hi
        have := (hone' i hi').choose_spec.1
        simpa using this
      · obtain ⟨i, _, rfl⟩ := List.mem_map.1 hp
        exact (hone' i.val i.2).choose_spec.2
end
end Go.Proofs.YtbdankpkdhhlmaaGreat
