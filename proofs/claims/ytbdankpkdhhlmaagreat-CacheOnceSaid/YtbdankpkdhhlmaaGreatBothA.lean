/-
  A repository is added to both: the step, in plain words. Helper text; the conditions are those typed.
-/
import Derived.Test.YtbdankpkdhhlmaaGreatAlikeA
import Derived.Test.YtbdankpkdhhlmaaGreatStaysA
namespace Go.Proofs.YtbdankpkdhhlmaaGreat
set_option linter.unusedVariables false
set_option linter.unusedSimpArgs false
open Go.RowKit Go.Maps

def addL (rl : List RepoT) (rs : List RepoH) (ks : List KeptT) (r : RepoT) : List RepoT := if addErr rs ks r = 0 then rl ++ [r] else rl
def addA (rl : List RepoT) (rs : List RepoH) (ks : List KeptT) (ats : List (Nat × Nat)) (r : RepoT) : List (Nat × Nat) := if addErr rs ks r = 0 then ats ++ (List.range r.pkgs.length).map (fun i => (rl.length, i)) else ats
theorem Built.next {rl : List RepoT} {rs : List RepoH} {ks : List KeptT} {ats : List (Nat × Nat)} (h : Built rl rs ks ats) (r : RepoT) : Built (addL rl rs ks r) (addR rs ks r) (addK rs ks r) (addA rl rs ks ats r) := by
  unfold addL addR addK addA
  by_cases e : addErr rs ks r = 0
  · rw [if_pos e, if_pos e, if_pos e, if_pos e]
    exact h.add r
  · rw [if_neg e, if_neg e, if_neg e, if_neg e]
    exact h
/-- From one world to the next: the pool's Add. -/
theorem Both.added {w w' : World} {B : Nat} {role role' : Nat → Role} {P M Q : Nat} {kd : Int} {rl : List RepoT} {rs : List RepoH} {ks : List KeptT} {ats : List (Nat × Nat)} (h : Both w B role P M Q kd rl rs ks ats) (hm : Moved role w role' w') : ∃ mr ma, MIn w' B (fun b => b < B) Q mr ma kd rl ats ∧ (∀ b, MB Q mr ma b → role' b = .free ∧ b < w.heap.size) := by
  obtain ⟨vr, va, lv, hp⟩ := h.pool
  obtain ⟨mr, ma, h2, h3⟩ := h.doc
  refine ⟨mr, ma, h2.keep (fun b hb => (hm.block b (h2.lt hb).2 (h3 b hb)).1) (fun b hb hl => ?_), fun b hb => ⟨(hm.block b (h2.lt hb).2 (h3 b hb)).2, (h2.lt hb).2⟩⟩
  refine (hm.block b hl ?_).1
  by_cases e : role b = .free
  · exact e
  · have := hp.lo b e
    omega
/-- .. the document's Add. -/
theorem Both.radded {w w' : World} {B : Nat} {role : Nat → Role} {P M Q : Nat} {kd : Int} {rs : List RepoH} {ks : List KeptT} {mr ma mr' ma' : Value} {vr va : Value} {lv : ByteArray → Value} (hp : PoolIn w B role P M vr va lv kd rs ks (ks.map fun k => k.pkg.name)) (hf : ∀ b, MB Q mr ma b → role b = .free) (hm : MMv (MB Q mr ma) w (MB Q mr' ma') w') :
    PoolIn w' B role P M vr va lv kd rs ks (ks.map fun k => k.pkg.name) ∧ ∀ b, MB Q mr' ma' b → role b = .free := by
  refine ⟨hp.keep hm.size fun b hb => (hm.block b (hp.hi b hb) (fun e => hb (hf b e))).1, fun b hb => ?_⟩
  by_cases e : b < w.heap.size
  · by_cases e2 : MB Q mr ma b
    · exact hf b e2
    · exact absurd hb (hm.block b e e2).2
  · by_cases e3 : role b = .free
    · exact e3
    · exact absurd (hp.hi b e3) e
/-- .. what was lent is written over. -/
theorem Both.spl {w w' : World} {B : Nat} {role : Nat → Role} {P M Q : Nat} {kd : Int} {rl : List RepoT} {rs : List RepoH} {ks : List KeptT} {ats : List (Nat × Nat)} {T : Nat → Prop} {vr va mr ma : Value} {lv : ByteArray → Value} (hp : PoolIn w B role P M vr va lv kd rs ks (ks.map fun k => k.pkg.name)) (h2 : MIn w B (fun b => b < B) Q mr ma kd rl ats) (h3 : ∀ b, MB Q mr ma b → role b = .free) (hb : Built rl rs ks ats) (hrl : rs.length ≤ 8) (hkl : ks.length ≤ 200)
    (hs : Spl w w' T) (hT : ∀ b, T b → role b = .free ∧ B ≤ b) (hM : ∀ b, T b → ¬ MB Q mr ma b) : Both w' B role P M Q kd rl rs ks ats := by
  refine ⟨⟨vr, va, lv, hp.keep hs.size fun b hb => hs.block b (hp.hi b hb) (fun e => hb (hT b e).1)⟩, ⟨mr, ma, h2.keep (fun b hb => hs.block b (h2.lt hb).2 (fun e => hM b e hb)) (fun b hb hl => hs.block b hl (fun e => by have := (hT b e).2; omega)), h3⟩, hb, hrl, hkl⟩
end Go.Proofs.YtbdankpkdhhlmaaGreat
