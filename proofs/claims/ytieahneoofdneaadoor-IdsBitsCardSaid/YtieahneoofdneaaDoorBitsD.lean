/-
  What the law of bits keeps while its script runs. Helper text; the conditions are those typed.
-/
import Derived.Test.YtieahneoofdneaaDoorBitsC
import Derived.Test.YtieahneoofdneaaDoorMono
namespace Go.Proofs.YtieahneoofdneaaDoor
set_option linter.unusedVariables false
set_option linter.unusedSimpArgs false
open Go.RowKit Go.Maps Go.Shelf

theorem nodup_len : ∀ (N : Nat) (l : List Int), l.Nodup → (∀ x ∈ l, 0 ≤ x ∧ x < (N : Int)) → l.length ≤ N
  | 0, l, _, h => by
    cases l with
    | nil => exact Nat.le_refl _
    | cons x l => have := h x (by simp); omega
  | N + 1, l, hn, h => by
    by_cases hN : (N : Int) ∈ l
    · have h1 := List.length_erase_of_mem hN
      have h2 := nodup_len N (l.erase N) (hn.erase _) (fun x hx => by
        have h3 := (hn.mem_erase_iff).1 hx
        have h4 := h x h3.2
        have h5 : x ≠ (N : Int) := h3.1
        omega)
      omega
    · have := nodup_len N l hn (fun x hx => by
        have h4 := h x hx
        have h5 : x ≠ (N : Int) := fun e => hN (e ▸ hx)
        omega)
      omega
theorem IsBits.len {W : Nat → Nat} {l : List Int} (h : IsBits W l) : l.length ≤ 65536 :=
  nodup_len 65536 l (h.1.imp fun {a b} hab => by have : a < b := hab; omega) fun x hx => by have := (h.2 x).1 hx; omega
theorem isBits_none : IsBits (fun _ => 0) [] := ⟨Rising.nil, fun n => by simp [bitAt]⟩
/-- The list behind a change. -/
def listSet (L : List Int) (k : Nat) (inn : Bool) : List Int := if inn = true then put1 L (k : Int) else refSort (L.filter fun x => !decide (x ∈ [(k : Int)]))
theorem isBits_set {W : Nat → Nat} {L : List Int} (h : IsBits W L) {k : Nat} (hk : k < 65536) (inn : Bool) : IsBits (if bitAt W k = inn then W else flip1 W k) (listSet L k inn) := by
  have hbit : ∀ n : Int, 0 ≤ n → bitAt (if bitAt W k = inn then W else flip1 W k) n.toNat = if n = k then inn else bitAt W n.toNat := fun n hn => by
    by_cases h1 : bitAt W k = inn
    · rw [if_pos h1]
      by_cases h2 : n = k
      · subst h2; rw [if_pos rfl, Int.toNat_natCast]; exact h1
      · rw [if_neg h2]
    · rw [if_neg h1, flip1_at]
      by_cases h2 : n = k
      · subst h2
        rw [if_pos rfl, Int.toNat_natCast]
        revert h1
        cases bitAt W k <;> cases inn <;> simp
      · rw [if_neg h2, decide_eq_false (by omega)]
        simp
  unfold listSet
  cases inn with
  | true =>
    rw [if_pos rfl]
    refine ⟨put1_rising h.1, fun n => ?_⟩
    rw [mem_put1, h.2]
    constructor
    · rintro (rfl | h1)
      · exact ⟨by omega, by omega, by rw [hbit _ (by omega), if_pos rfl]⟩
      · refine ⟨h1.1, h1.2.1, ?_⟩
        rw [hbit _ h1.1]
        split
        · rfl
        · exact h1.2.2
    · rintro ⟨h1, h2, h3⟩
      rw [hbit _ h1] at h3
      by_cases h4 : n = k
      · exact .inl h4
      · rw [if_neg h4] at h3
        exact .inr ⟨h1, h2, h3⟩
  | false =>
    rw [if_neg (show ¬ (false = true) by decide)]
    refine ⟨refSort_rising _, fun n => ?_⟩
    rw [mem_refSort, List.mem_filter, h.2]
    simp only [List.mem_singleton, Bool.not_eq_true', decide_eq_false_iff_not]
    constructor
    · rintro ⟨h1, h2⟩
      exact ⟨h1.1, h1.2.1, by rw [hbit _ h1.1, if_neg h2]; exact h1.2.2⟩
    · rintro ⟨h1, h2, h3⟩
      rw [hbit _ h1] at h3
      by_cases h4 : n = k
      · rw [if_pos h4] at h3; cases h3
      · rw [if_neg h4] at h3
        exact ⟨⟨h1, h2, h3⟩, h4⟩
theorem was_bit {W : Nat → Nat} {L : List Int} (h : IsBits W L) {k : Nat} (hk : k < 65536) : decide ((k : Int) ∈ L) = bitAt W k := by
  have := h.2 (k : Int)
  rw [Int.toNat_natCast] at this
  cases hb : bitAt W k with
  | true => exact decide_eq_true (this.2 ⟨by omega, by omega, hb⟩)
  | false => exact decide_eq_false fun hm => by have := (this.1 hm).2.2; rw [hb] at this; cases this

/-- A list of integers does not lie in a block whose cells are none. -/
theorem SliceI.turn {w w' : World} {v : Value} {l : List Int} (h : SliceI w v l) (g : Nat) (hk : ∀ b, b ≠ g → b < w.heap.size → w'.heap[b]? = w.heap[b]?) (hg : ∀ o x, w.cell? ⟨g, o, none⟩ ≠ some (.int .i64 x)) : SliceI w' v l := by
  obtain ⟨A, n, c, e, h1, h2, h3, h4⟩ := h
  refine ⟨A, n, c, e, h1, ?_, h3, h4⟩
  rcases h2 with h2 | ⟨b, off, rfl, hc⟩
  · exact .inl h2
  · refine .inr ⟨b, off, rfl, fun i hi => ?_⟩
    have h5 := hc i hi
    have hne : b ≠ g := fun e => by subst e; exact hg _ _ h5
    exact cell_blk (hk b hne (World.block_lt_of_cell? w _ h5)) h5
theorem bits_noint {w : World} {b : Nat} {W : Nat → Nat} (h : BitsAt w b W) : ∀ o x, w.cell? ⟨b, o, none⟩ ≠ some (.int .i64 x) := fun o x e => by
  obtain ⟨cur, h1, h2, h3⟩ := h.box
  unfold World.cell? at e
  simp only [h1] at e
  have hlt : o < cur.size := by
    rcases Nat.lt_or_ge o cur.size with h | h
    · exact h
    · rw [Array.getElem?_eq_none h] at e; cases e
  rw [h3 o (by omega)] at e
  cases e
theorem one_noint {w : World} {b : Nat} {v : Value} {t : TypeId} (h : BoxN w b [v] t) (hv : ∀ x, v ≠ .int .i64 x) : ∀ o x, w.cell? ⟨b, o, none⟩ ≠ some (.int .i64 x) := fun o x e => by
  unfold BoxN at h
  unfold World.cell? at e
  simp only [h] at e
  cases o with
  | zero => simp at e; exact hv x e
  | succ o => simp at e

/-- What the loop keeps: the bits, the list, and the boxes of what came in and of the result. -/
structure BInv (w : World) (stop : Int) (Bk : Nat) (wr : World) (W : Nat → Nat) (v : Value) (L : List Int) : Prop where
  below : Below w.heap.size w wr
  boxS : BoxN wr w.heap.size [.int .i64 stop] 3
  boxR : BoxN wr (w.heap.size + 1) [.bool false] 4
  bits : BitsAt wr Bk W
  boxL : BoxN wr (Bk + 1) [v] 28
  sl : SliceI wr v L
  isb : IsBits W L
  lo : w.heap.size + 2 ≤ Bk
theorem BInv.up {w : World} {stop : Int} {Bk : Nat} {wr wd : World} {W : Nat → Nat} {v : Value} {L : List Int} (h : BInv w stop Bk wr W v L) (hb : Below wr.heap.size wr wd) : BInv w stop Bk wd W v L :=
  ⟨h.below.trans (below_to hb h.below.size), h.boxS.below hb, h.boxR.below hb, h.bits.below hb, h.boxL.below hb, h.sl.below hb, h.isb, h.lo⟩
theorem SliceI.noint {w : World} {v : Value} {l : List Int} (h : SliceI w v l) : ∀ x, v ≠ .int .i64 x := fun x e => by
  obtain ⟨A, n, c, rfl, _⟩ := h
  cases e

/-- The bits change. -/
theorem BInv.turn {w : World} {stop : Int} {Bk : Nat} {wr w' : World} {W W' : Nat → Nat} {v : Value} {L : List Int} (h : BInv w stop Bk wr W v L) (hb : BitsAt w' Bk W') (hg : wr.grownBy w' (some Bk)) :
    Below w.heap.size w w' ∧ BoxN w' w.heap.size [.int .i64 stop] 3 ∧ BoxN w' (w.heap.size + 1) [.bool false] 4 ∧ BoxN w' (Bk + 1) [v] 28 ∧ SliceI w' v L := by
  have hlo := h.lo
  have hk : ∀ b, b ≠ Bk → b < wr.heap.size → w'.heap[b]? = wr.heap[b]? := fun b hb hlt => hg.block b hlt (fun e => hb (Option.some.inj e))
  exact ⟨h.below.grown hg h.below.size (fun k e => by cases e; omega), h.boxS.to (hk _ (by omega) h.boxS.lt), h.boxR.to (hk _ (by omega) h.boxR.lt), h.boxL.to (hk _ (by omega) h.boxL.lt), h.sl.turn Bk hk (bits_noint h.bits)⟩
/-- The list is told anew. -/
theorem BInv.list {w : World} {stop : Int} {Bk : Nat} {w2 w3 : World} {W' : Nat → Nat} {v v' : Value} {L' : List Int} (hlo : w.heap.size + 2 ≤ Bk) (h1 : Below w.heap.size w w2) (h2 : BoxN w2 w.heap.size [.int .i64 stop] 3) (h3 : BoxN w2 (w.heap.size + 1) [.bool false] 4) (h4 : BoxN w2 (Bk + 1) [v] 28) (hb : BitsAt w2 Bk W')
    (hv : ∀ x, v ≠ .int .i64 x) (hb3 : Below w2.heap.size w2 w3) (hs : SliceI w3 v' L') (hi : IsBits W' L') : BInv w stop Bk (w3.setCell ⟨Bk + 1, 0, none⟩ v') W' v' L' := by
  have hk : ∀ b, b ≠ Bk + 1 → (w3.setCell ⟨Bk + 1, 0, none⟩ v').heap[b]? = w3.heap[b]? := fun b hb => set_other _ hb
  refine ⟨below_sc (h1.trans (below_to hb3 h1.size)) (by omega) _ _, (h2.below hb3).to (hk _ (by omega)), (h3.below hb3).to (hk _ (by omega)), (hb.below hb3).to (hk _ (by omega)), (h4.below hb3).set 0 v', hs.turn (Bk + 1) (fun b hb _ => hk b hb) (one_noint (h4.below hb3) hv), hi, hlo⟩
end Go.Proofs.YtieahneoofdneaaDoor
