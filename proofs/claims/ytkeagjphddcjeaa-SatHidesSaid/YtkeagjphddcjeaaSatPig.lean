/-
  Guests and homes. Plain; no program in sight.
-/
import Derived.Test.YtkeagjphddcjeaaSatNorm
namespace Go.Proofs.Ytkeagjphddcjeaa
set_option linter.unusedVariables false
set_option linter.unusedSimpArgs false
namespace Sat
theorem litB_up (v : Asg) (m : Nat) : litB v (((m + 1 : Nat)) : Int) = v m := by
  unfold litB vr
  rw [if_neg (by omega), Int.natAbs_natCast]
  rfl
theorem litB_down (v : Asg) (m : Nat) : litB v (-(((m + 1 : Nat)) : Int)) = !v m := by
  rw [litB_neg v (by omega), litB_up]
def pgB (H h g : Nat) : Nat → List Cl
  | 0 => []
  | k + 1 => pgB H h g k ++ [[-((g * H + h + 1 : Nat) : Int), -((k * H + h + 1 : Nat) : Int)]]
def pgC (H h : Nat) : Nat → List Cl
  | 0 => []
  | g + 1 => pgC H h g ++ pgB H h g g
def pgD (H G : Nat) : Nat → List Cl
  | 0 => []
  | h + 1 => pgD H G h ++ pgC H h G
def pgR (H g : Nat) : Nat → Cl
  | 0 => []
  | h + 1 => pgR H g h ++ [((g * H + h + 1 : Nat) : Int)]
def pgA (H : Nat) : Nat → List Cl
  | 0 => []
  | g + 1 => pgA H g ++ [pgR H g H]
def pg (G H : Nat) : List Cl := pgA H G ++ pgD H G H
theorem pgB_len (H h g : Nat) : ∀ k, (pgB H h g k).length = k
  | 0 => rfl
  | k + 1 => by unfold pgB; simp [pgB_len H h g k]
theorem pgC_len (H h : Nat) : ∀ g, g ≤ 6 → (pgC H h g).length ≤ g * 6
  | 0, _ => Nat.le_refl _
  | g + 1, hg => by
    unfold pgC
    have := pgC_len H h g (by omega)
    rw [List.length_append, pgB_len]
    omega
theorem pgD_len (H G : Nat) (hG : G ≤ 6) : ∀ h, (pgD H G h).length ≤ h * 36
  | 0 => Nat.le_refl _
  | h + 1 => by
    unfold pgD
    have := pgD_len H G hG h
    have := pgC_len H h G hG
    rw [List.length_append]
    omega
theorem pgR_len (H g : Nat) : ∀ h, (pgR H g h).length = h
  | 0 => rfl
  | h + 1 => by unfold pgR; simp [pgR_len H g h]
theorem pgA_len (H : Nat) : ∀ g, (pgA H g).length = g
  | 0 => rfl
  | g + 1 => by unfold pgA; simp [pgA_len H g]
theorem pgR_mem {H g : Nat} {x : Int} : ∀ {n : Nat}, x ∈ pgR H g n ↔ ∃ h, h < n ∧ x = ((g * H + h + 1 : Nat) : Int)
  | 0 => by simp [pgR]
  | n + 1 => by
    unfold pgR
    rw [List.mem_append, pgR_mem, List.mem_singleton]
    constructor
    · rintro (⟨h, h1, h2⟩ | h2)
      · exact ⟨h, by omega, h2⟩
      · exact ⟨n, by omega, h2⟩
    · rintro ⟨h, h1, h2⟩
      by_cases e : h = n
      · subst e; exact .inr h2
      · exact .inl ⟨h, by omega, h2⟩
theorem pgA_mem {H : Nat} {c : Cl} : ∀ {n : Nat}, c ∈ pgA H n ↔ ∃ g, g < n ∧ c = pgR H g H
  | 0 => by simp [pgA]
  | n + 1 => by
    unfold pgA
    rw [List.mem_append, pgA_mem, List.mem_singleton]
    constructor
    · rintro (⟨h, h1, h2⟩ | h2)
      · exact ⟨h, by omega, h2⟩
      · exact ⟨n, by omega, h2⟩
    · rintro ⟨h, h1, h2⟩
      by_cases e : h = n
      · subst e; exact .inr h2
      · exact .inl ⟨h, by omega, h2⟩
theorem pgB_mem {H h g : Nat} {c : Cl} : ∀ {n : Nat}, c ∈ pgB H h g n ↔ ∃ k, k < n ∧ c = [-((g * H + h + 1 : Nat) : Int), -((k * H + h + 1 : Nat) : Int)]
  | 0 => by simp [pgB]
  | n + 1 => by
    unfold pgB
    rw [List.mem_append, pgB_mem, List.mem_singleton]
    constructor
    · rintro (⟨h, h1, h2⟩ | h2)
      · exact ⟨h, by omega, h2⟩
      · exact ⟨n, by omega, h2⟩
    · rintro ⟨h, h1, h2⟩
      by_cases e : h = n
      · subst e; exact .inr h2
      · exact .inl ⟨h, by omega, h2⟩
theorem pgC_mem {H h : Nat} {c : Cl} : ∀ {n : Nat}, c ∈ pgC H h n ↔ ∃ g, g < n ∧ c ∈ pgB H h g g
  | 0 => by simp [pgC]
  | n + 1 => by
    unfold pgC
    rw [List.mem_append, pgC_mem]
    constructor
    · rintro (⟨h, h1, h2⟩ | h2)
      · exact ⟨h, by omega, h2⟩
      · exact ⟨n, by omega, h2⟩
    · rintro ⟨h, h1, h2⟩
      by_cases e : h = n
      · subst e; exact .inr h2
      · exact .inl ⟨h, by omega, h2⟩
theorem pgD_mem {H G : Nat} {c : Cl} : ∀ {n : Nat}, c ∈ pgD H G n ↔ ∃ h, h < n ∧ c ∈ pgC H h G
  | 0 => by simp [pgD]
  | n + 1 => by
    unfold pgD
    rw [List.mem_append, pgD_mem]
    constructor
    · rintro (⟨h, h1, h2⟩ | h2)
      · exact ⟨h, by omega, h2⟩
      · exact ⟨n, by omega, h2⟩
    · rintro ⟨h, h1, h2⟩
      by_cases e : h = n
      · subst e; exact .inr h2
      · exact .inl ⟨h, by omega, h2⟩
theorem pg_pair {G H g k h : Nat} (hg : g < G) (hk : k < g) (hh : h < H) : [-((g * H + h + 1 : Nat) : Int), -((k * H + h + 1 : Nat) : Int)] ∈ pg G H :=
  List.mem_append_right _ (pgD_mem.2 ⟨h, hh, pgC_mem.2 ⟨g, hg, pgB_mem.2 ⟨k, hk, rfl⟩⟩⟩)
theorem pg_mem {G H : Nat} {c : Cl} (h : c ∈ pg G H) : (∃ g, g < G ∧ c = pgR H g H) ∨ ∃ g k h, g < G ∧ k < g ∧ h < H ∧ c = [-((g * H + h + 1 : Nat) : Int), -((k * H + h + 1 : Nat) : Int)] := by
  rcases List.mem_append.1 h with h | h
  · exact .inl (pgA_mem.1 h)
  · obtain ⟨h, hh, h1⟩ := pgD_mem.1 h
    obtain ⟨g, hg, h2⟩ := pgC_mem.1 h1
    obtain ⟨k, hk, h3⟩ := pgB_mem.1 h2
    exact .inr ⟨g, k, h, hg, hk, hh, h3⟩
theorem pg_lt {G H g h : Nat} (hg : g < G) (hh : h < H) : g * H + h + 1 ≤ G * H := by
  have h1 : (g + 1) * H ≤ G * H := Nat.mul_le_mul_right _ hg
  rw [Nat.succ_mul] at h1
  omega
theorem pg_lok {G H g h : Nat} (hg : g < G) (hh : h < H) : Lok (G * H) ((g * H + h + 1 : Nat) : Int) := by
  have := pg_lt hg hh
  unfold Lok
  generalize g * H = a at *
  generalize G * H = b at *
  omega
theorem pg_lok' {G H g h : Nat} (hg : g < G) (hh : h < H) : Lok (G * H) (-((g * H + h + 1 : Nat) : Int)) := by
  have := pg_lt hg hh
  unfold Lok
  generalize g * H = a at *
  generalize G * H = b at *
  omega
theorem pg_ok {G H : Nat} : ∀ c ∈ pg G H, ∀ x ∈ c, Lok (G * H) x := fun c hc x hx => by
  rcases pg_mem hc with ⟨g, hg, rfl⟩ | ⟨g, k, h, hg, hk, hh, rfl⟩
  · obtain ⟨h, hh, rfl⟩ := pgR_mem.1 hx
    exact pg_lok hg hh
  · simp only [List.mem_cons, List.not_mem_nil, or_false] at hx
    rcases hx with rfl | rfl
    · exact pg_lok' hg hh
    · exact pg_lok' (Nat.lt_trans hk hg) hh
theorem pg_short {G H : Nat} (hH : H ≤ 6) : ∀ c ∈ pg G H, c.length ≤ 6 := fun c hc => by
  rcases pg_mem hc with ⟨g, hg, rfl⟩ | ⟨g, k, h, hg, hk, hh, rfl⟩
  · rw [pgR_len]; exact hH
  · simp
open Classical in
theorem pg_unsat {G H : Nat} (h : H < G) (v : Asg) : ¬ sat v (pg G H) := fun hs => by
  have hx : ∀ g, g < G → ∃ k, k < H ∧ v (g * H + k) = true := fun g hg => by
    obtain ⟨l, hl, hb⟩ := hs _ (List.mem_append_left _ (pgA_mem.2 ⟨g, hg, rfl⟩))
    obtain ⟨k, hk, rfl⟩ := pgR_mem.1 hl
    rw [litB_up] at hb
    exact ⟨k, hk, hb⟩
  let f : Nat → Nat := fun g => if e : g < G then Classical.choose (hx g e) else 0
  have hf : ∀ g, g < G → f g < H ∧ v (g * H + f g) = true := fun g hg => by
    have := Classical.choose_spec (hx g hg)
    simp only [f, dif_pos hg]
    exact this
  have hd : ∀ g k, g < G → k < g → f g ≠ f k := fun g k hg hk e => by
    obtain ⟨h1, h2⟩ := hf g hg
    obtain ⟨h3, h4⟩ := hf k (Nat.lt_trans hk hg)
    obtain ⟨l, hl, hb⟩ := hs _ (pg_pair hg hk h1)
    simp only [List.mem_cons, List.not_mem_nil, or_false] at hl
    rcases hl with rfl | rfl
    · rw [litB_down, h2] at hb; cases hb
    · rw [litB_down, e, h4] at hb; cases hb
  have hn : ((List.range G).map f).Nodup := by
    rw [List.Nodup, List.pairwise_map]
    refine List.Pairwise.imp_of_mem ?_ (List.pairwise_lt_range (n := G))
    intro a b ha hb hab e
    exact hd b a (List.mem_range.1 hb) hab e.symm
  have := List.Nodup.length_le_of_subset hn (l₂ := List.range H) fun x hx => by
    obtain ⟨g, hg, rfl⟩ := List.mem_map.1 hx
    exact List.mem_range.2 (hf g (List.mem_range.1 hg)).1
  simp at this
  omega
theorem pg_sat (G : Nat) : ∃ v, sat v (pg G G) := by
  have hq : ∀ g h, h < G → (g * G + h) / G = g ∧ (g * G + h) % G = h := fun g h hh => by
    refine ⟨?_, ?_⟩
    · rw [Nat.mul_comm, Nat.mul_add_div (by omega), Nat.div_eq_of_lt hh, Nat.add_zero]
    · rw [Nat.mul_comm, Nat.mul_add_mod, Nat.mod_eq_of_lt hh]
  refine ⟨fun i => decide (i / G = i % G), fun c hc => ?_⟩
  rcases pg_mem hc with ⟨g, hg, rfl⟩ | ⟨g, k, h, hg, hk, hh, rfl⟩
  · refine ⟨_, pgR_mem.2 ⟨g, hg, rfl⟩, ?_⟩
    rw [litB_up]
    obtain ⟨h1, h2⟩ := hq g g hg
    show decide _ = true
    rw [h1, h2]
    simp
  · by_cases e : g = h
    · refine ⟨_, List.mem_cons_of_mem _ (List.mem_cons_self), ?_⟩
      rw [litB_down]
      obtain ⟨h1, h2⟩ := hq k h hh
      show (!decide _) = true
      rw [h1, h2]
      have : k ≠ h := by omega
      simp [this]
    · refine ⟨_, List.mem_cons_self, ?_⟩
      rw [litB_down]
      obtain ⟨h1, h2⟩ := hq g h hh
      show (!decide _) = true
      rw [h1, h2]
      simp [e]
end Sat
end Go.Proofs.Ytkeagjphddcjeaa
