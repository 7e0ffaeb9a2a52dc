/-
  Slices of bytes and of numbers that came in. Helper text; no conditions beyond those typed.
-/
import Derived.Test.YtieahneoofdneaaLawB
import Derived.Test.YtieahneoofdneaaArgs
import Derived.Test.YtieahneoofdneaaFrame
import Derived.ChangeSlices
namespace Go.Proofs.Ytieahneoofdneaa
set_option linter.unusedVariables false
set_option linter.unusedSimpArgs false
open Go.ChangeShapes Go.WideShapes Go.ChangeAt Go.RowKit

theorem bytes_of_nums (zs : List Int) (h : ∀ z ∈ zs, (Lit.int .u8 z).wf = true) : ∃ l : List UInt8, l.length = zs.length ∧ ∀ i, i < zs.length → ((l.getD i 0).toNat : Int) = zs.getD i 0 := by
  refine ⟨zs.map (fun z => UInt8.ofNat z.toNat), by simp, fun i hi => ?_⟩
  have hb : 0 ≤ zs[i] ∧ zs[i] < 256 := by
    have := h zs[i] (List.getElem_mem hi)
    simp [Lit.wf, IntKind.min, IntKind.max, IntKind.bits, IntKind.signed] at this
    omega
  simp [List.getD, hi, UInt8.toNat_ofNat']
  omega

theorem readsB_of {H : Type} {enc : TypeId × Value → H} {w : World} {base : Nat} {sp : Nat → Bool} {held : Bool} {a : Option Addr} {len cap : Nat} {d : DataW H} {p : List MemPlace}
    (h : DataW.Trod enc Try.prog w base sp held 23 (.slice a len cap) d p) : ∃ l : List UInt8, l.length = len ∧ ReadsB w (.slice a len cap) l := by
  obtain ⟨fuel, hf⟩ := h
  rcases open_ints Try.underlying23 Try.underlying5 (by kernel_rfl) hf with ⟨hcs, _⟩ | ⟨x, l, c, zs, hcs, _, hl, hm, hz, _, hcell, hws⟩
  · simp [Value.cells] at hcs
    obtain ⟨rfl, rfl, rfl⟩ := hcs
    exact ⟨[], rfl, .inl ⟨rfl, rfl⟩⟩
  · simp [Value.cells] at hcs
    obtain ⟨rfl, rfl, rfl⟩ := hcs
    have hlen : len ≤ zs.length := by rw [hz]; split <;> omega
    obtain ⟨l, hl1, hl2⟩ := bytes_of_nums zs hws
    have hk : (l.take len).length = len := by simp; omega
    refine ⟨l.take len, hk, .inr ⟨x, cap, by rw [hk], fun j u hj => ?_⟩⟩
    have hj' : j < len := by
      have := (List.getElem?_eq_some_iff.1 hj).1
      simp [Lib.byteCells] at this
      omega
    rw [hcell j (by omega), ← hl2 j (by omega)]
    have hjl : j < l.length := by omega
    simp [Lib.byteCells, hj', hjl] at hj
    simp [List.getD, hjl, hj]

theorem open_u64 {H : Type} {enc : TypeId × Value → H} {w : World} {base b0 : Nat} {sp : Nat → Bool} {held : Bool} {r : Reach} {v : Value} {d : DataW H} {p : List MemPlace}
    (hv : Value.okWide Try.prog w r b0 24 v) (h : DataW.Trod enc Try.prog w base sp held 24 v d p) : ∃ n : Nat, v = .int .u64 n ∧ n < 18446744073709551616 := by
  obtain ⟨a, rfl, rfl, rfl, wa⟩ := open_int Try.underlying24 hv h
  have hb : 0 ≤ a ∧ a < 18446744073709551616 := by
    simp [Lit.wf, IntKind.min, IntKind.max, IntKind.bits, IntKind.signed] at wa
    omega
  exact ⟨a.toNat, by rw [Int.toNat_of_nonneg hb.1], by omega⟩
end Go.Proofs.Ytieahneoofdneaa
