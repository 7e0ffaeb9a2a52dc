/-
  The document's pool grows: what each step leaves. Helper text; the conditions are those typed.
-/
import Derived.Test.YtbdankpkdhhlmaaGreatRPoolD
namespace Go.Proofs.YtbdankpkdhhlmaaGreat
set_option linter.unusedVariables false
set_option linter.unusedSimpArgs false
open Go.RowKit Go.Maps

/-- From one world to the next: only blocks of M turn, what is M' is of M or new. -/
structure MMv (M : Nat → Prop) (w : World) (M' : Nat → Prop) (w' : World) : Prop where
  os : w'.os = w.os
  tape : w'.tape = w.tape
  output : w'.output = w.output
  size : w.heap.size ≤ w'.heap.size
  block : ∀ b, b < w.heap.size → ¬ M b → w'.heap[b]? = w.heap[b]? ∧ ¬ M' b
theorem MMv.refl (M : Nat → Prop) (w : World) : MMv M w M w := ⟨rfl, rfl, rfl, Nat.le_refl _, fun b _ h => ⟨rfl, h⟩⟩
theorem MMv.trans {M0 M1 M2 : Nat → Prop} {w0 w1 w2 : World} (h : MMv M0 w0 M1 w1) (k : MMv M1 w1 M2 w2) : MMv M0 w0 M2 w2 :=
  ⟨k.os.trans h.os, k.tape.trans h.tape, k.output.trans h.output, Nat.le_trans h.size k.size, fun b hb hM => by
    obtain ⟨h1, h2⟩ := h.block b hb hM
    obtain ⟨k1, k2⟩ := k.block b (Nat.lt_of_lt_of_le hb h.size) h2
    exact ⟨k1.trans h1, k2⟩⟩
theorem MMv.of_below {M : Nat → Prop} {w w' : World} (h : Below w.heap.size w w') : MMv M w M w' := ⟨h.os, h.tape, h.output, h.size, fun b hb hM => ⟨h.block b hb, hM⟩⟩

section
variable {w w2 : World} {B : Nat} {S : Nat → Prop} {Q : Nat} {vr va : Value} {kd : Int} {rl : List RepoT} {ats : List (Nat × Nat)}
theorem MIn.mlt (h : MIn w B S Q vr va kd rl ats) {g : Nat} {v : Value} (hv : v = vr ∨ v = va) (hat : v.ownBlock = some g ∨ w.heap.size ≤ g) : Q ≠ g := by
  rintro rfl
  rcases hat with h1 | h1
  · rcases hv with rfl | rfl
    · exact h.rne h1
    · exact h.ane h1
  · have := h.box.lt
    omega
/-- A place more. -/
theorem MIn.at_step (h : MIn w B S Q vr va kd rl ats) {ys : List Value} (hys : w.ownsRow B 87 2 va ats.length ys) (hyc : ∀ i k j, ats[i]? = some (k, j) → ys[i * 2]? = some (.int .i64 (k : Int)) ∧ ys[i * 2 + 1]? = some (.int .i64 (j : Int))) {k j g cap : Nat}
    (hown : w2.ownsRow B 87 2 (.slice (some ⟨g, 0, none⟩) (ats.length + 1) cap) (ats.length + 1) (ys ++ [.int .i64 (k : Int), .int .i64 (j : Int)])) (hgrow : w.grownBy w2 va.ownBlock) (hat : va.ownBlock = some g ∨ w.heap.size ≤ g) :
    MIn (w2.setCell ⟨Q, 2, none⟩ (.slice (some ⟨g, 0, none⟩) (ats.length + 1) cap)) B S Q vr (.slice (some ⟨g, 0, none⟩) (ats.length + 1) cap) kd rl (ats ++ [(k, j)]) ∧ MMv (MB Q vr va) w (MB Q vr (.slice (some ⟨g, 0, none⟩) (ats.length + 1) cap)) (w2.setCell ⟨Q, 2, none⟩ (.slice (some ⟨g, 0, none⟩) (ats.length + 1) cap)) := by
  have hQg : Q ≠ g := h.mlt (.inr rfl) hat
  obtain ⟨xs, hx, hxc⟩ := h.rrow
  have hQlt := h.box.lt
  have hk : ∀ b, b < w.heap.size → b ≠ Q → va.ownBlock ≠ some b → (w2.setCell ⟨Q, 2, none⟩ (.slice (some ⟨g, 0, none⟩) (ats.length + 1) cap)).heap[b]? = w.heap[b]? := fun b hb h1 h2 =>
    (set_other _ h1).trans (hgrow.block b hb (fun e => h2 e.symm))
  have hBg : B ≤ g := (hown.lt g rfl).1
  have hrg : ∀ b, vr.ownBlock = some b → b ≠ g := fun b hb e => by
    subst e
    rcases hat with h1 | h1
    · exact h.apart b hb h1
    · have := (hx.lt b hb).2
      omega
  have hyl : ys.length = ats.length * 2 := hys.1
  refine ⟨⟨?_, ⟨xs, ownsRow_to hx fun b hb => hk b (hx.lt b hb).2 (fun e => h.rne (by rw [← e]; exact hb)) (h.apart b hb), fun k' hk' => ?_⟩, ⟨ys ++ [.int .i64 (k : Int), .int .i64 (j : Int)], ?_, fun i k' j' hi => ?_⟩, h.lo, h.sb, h.rne, fun e => hQg (Option.some.inj e).symm, fun b hb e => hrg b hb (Option.some.inj e).symm⟩,
    hgrow.os, hgrow.tape, hgrow.output, by rw [set_size]; exact hgrow.size, fun b hb hM => ⟨hk b hb (fun e => hM (.inl e)) (fun e => hM (.inr (.inr e))), ?_⟩⟩
  · have h1 : BoxN w2 Q [.int .i64 kd, vr, va] 37 := h.box.to (hgrow.block Q hQlt (fun e => h.ane e.symm))
    exact h1.set 2 _
  · obtain ⟨v, h1, h2⟩ := hxc k' hk'
    exact ⟨v, h1.keep (fun _ h => h) (fun b hb hl => hk b hl (fun e => by have := h.sb b hb; have := h.lo; omega) (fun e => by have := h.sb b hb; have := (hys.lt b e).1; omega)), h2⟩
  · rw [List.length_append, List.length_singleton]
    exact ownsRow_to hown fun b hb => by
      cases hb
      exact set_other _ (Ne.symm hQg)
  · by_cases e : i < ats.length
    · rw [List.getElem?_append_left e] at hi
      obtain ⟨h1, h2⟩ := hyc i k' j' hi
      rw [List.getElem?_append_left (by omega), List.getElem?_append_left (by omega)]
      exact ⟨h1, h2⟩
    · have hil := (List.getElem?_eq_some_iff.1 hi).1
      rw [List.length_append, List.length_singleton] at hil
      obtain rfl : i = ats.length := by omega
      rw [List.getElem?_append_right (Nat.le_refl _)] at hi
      simp only [Nat.sub_self, List.getElem?_cons_zero, Option.some.injEq, Prod.mk.injEq] at hi
      obtain ⟨rfl, rfl⟩ := hi
      rw [List.getElem?_append_right (by omega), List.getElem?_append_right (by omega), hyl]
      simp
  · rintro (e | e | e)
    · exact hM (.inl e)
    · exact hM (.inr (.inl e))
    · have e' := (Option.some.inj e)
      subst e'
      rcases hat with h1 | h1
      · exact hM (.inr (.inr h1))
      · simp at hb
        omega
/-- A repository more. -/
theorem MIn.repo_step (h : MIn w B S Q vr va kd rl ats) {xs : List Value} (hxs : w.ownsRow B 40 4 vr rl.length xs) (hxc : ∀ k (h : k < rl.length), ∃ v, PkgsV w S rl[k].pkgs v ∧ ∀ r u, ([.string rl[k].name, .int .i64 rl[k].prio, .bool rl[k].inst, v] : List Value)[r]? = some u → xs[k * 4 + r]? = some u) {r : RepoT} {v : Value} (hv : PkgsV w S r.pkgs v) {g cap : Nat}
    (hown : w2.ownsRow B 40 4 (.slice (some ⟨g, 0, none⟩) (rl.length + 1) cap) (rl.length + 1) (xs ++ [.string r.name, .int .i64 r.prio, .bool r.inst, v])) (hgrow : w.grownBy w2 vr.ownBlock) (hat : vr.ownBlock = some g ∨ w.heap.size ≤ g) :
    MIn (w2.setCell ⟨Q, 1, none⟩ (.slice (some ⟨g, 0, none⟩) (rl.length + 1) cap)) B S Q (.slice (some ⟨g, 0, none⟩) (rl.length + 1) cap) va kd (rl ++ [r]) ats ∧ MMv (MB Q vr va) w (MB Q (.slice (some ⟨g, 0, none⟩) (rl.length + 1) cap) va) (w2.setCell ⟨Q, 1, none⟩ (.slice (some ⟨g, 0, none⟩) (rl.length + 1) cap)) := by
  have hQg : Q ≠ g := h.mlt (.inl rfl) hat
  obtain ⟨ys, hy, hyc⟩ := h.arow
  have hQlt := h.box.lt
  have hk : ∀ b, b < w.heap.size → b ≠ Q → vr.ownBlock ≠ some b → (w2.setCell ⟨Q, 1, none⟩ (.slice (some ⟨g, 0, none⟩) (rl.length + 1) cap)).heap[b]? = w.heap[b]? := fun b hb h1 h2 =>
    (set_other _ h1).trans (hgrow.block b hb (fun e => h2 e.symm))
  have hS : ∀ b, S b → b < w.heap.size → (w2.setCell ⟨Q, 1, none⟩ (.slice (some ⟨g, 0, none⟩) (rl.length + 1) cap)).heap[b]? = w.heap[b]? := fun b hb hl => hk b hl (fun e => by have := h.sb b hb; have := h.lo; omega) (fun e => by have := h.sb b hb; have := (hxs.lt b e).1; omega)
  have hag : ∀ b, va.ownBlock = some b → b ≠ g := fun b hb e => by
    subst e
    rcases hat with h1 | h1
    · exact h.apart b h1 hb
    · have := (hy.lt b hb).2
      omega
  have hxl : xs.length = rl.length * 4 := hxs.1
  refine ⟨⟨?_, ⟨xs ++ [.string r.name, .int .i64 r.prio, .bool r.inst, v], ?_, fun k' hk' => ?_⟩, ⟨ys, ownsRow_to hy fun b hb => hk b (hy.lt b hb).2 (fun e => h.ane (by rw [← e]; exact hb)) (fun e => h.apart b e hb), hyc⟩, h.lo, h.sb, fun e => hQg (Option.some.inj e).symm, h.ane, fun b hb e => hag b e (Option.some.inj hb).symm⟩,
    hgrow.os, hgrow.tape, hgrow.output, by rw [set_size]; exact hgrow.size, fun b hb hM => ⟨hk b hb (fun e => hM (.inl e)) (fun e => hM (.inr (.inl e))), ?_⟩⟩
  · have h1 : BoxN w2 Q [.int .i64 kd, vr, va] 37 := h.box.to (hgrow.block Q hQlt (fun e => h.rne e.symm))
    exact h1.set 1 _
  · rw [List.length_append, List.length_singleton]
    exact ownsRow_to hown fun b hb => by
      cases hb
      exact set_other _ (Ne.symm hQg)
  · by_cases e : k' < rl.length
    · rw [List.getElem_append_left e]
      obtain ⟨v', h1, h2⟩ := hxc k' e
      refine ⟨v', h1.keep (fun _ h => h) hS, fun r' u hr => ?_⟩
      have hr4 : r' < 4 := (List.getElem?_eq_some_iff.1 hr).1
      rw [List.getElem?_append_left (by omega)]
      exact h2 r' u hr
    · have hkl : k' = rl.length := by
        rw [List.length_append, List.length_singleton] at hk'
        omega
      subst hkl
      simp only [List.getElem_append_right (Nat.le_refl _), Nat.sub_self, List.getElem_cons_zero]
      refine ⟨v, hv.keep (fun _ h => h) hS, fun r' u hr => ?_⟩
      rw [List.getElem?_append_right (by omega), hxl, show rl.length * 4 + r' - rl.length * 4 = r' by omega]
      exact hr
  · rintro (e | e | e)
    · exact hM (.inl e)
    · have e' := (Option.some.inj e)
      subst e'
      rcases hat with h1 | h1
      · exact hM (.inr (.inl h1))
      · simp at hb
        omega
    · exact hM (.inr (.inr e))
end
end Go.Proofs.YtbdankpkdhhlmaaGreat
