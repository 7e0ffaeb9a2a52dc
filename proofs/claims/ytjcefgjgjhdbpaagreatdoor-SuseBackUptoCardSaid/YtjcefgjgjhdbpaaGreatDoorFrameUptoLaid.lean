/-
  From a walk that answers true and leaves all old memory as it was to a law's second form ('..UptoSaid') where the row lists variables: the frame. A helper text of this seat; no conditions beyond those typed.
-/
import Derived.Test.YtjcefgjgjhdbpaaGreatDoorRows
import Derived.Test.YtjcefgjgjhdbpaaGreatDoorFrameLaid
import Derived.JoinedCond
import Derived.Deep.DeepHandedRow
import Derived.Lib.LaidTab
namespace Go.Proofs.YtjcefgjgjhdbpaaGreatDoor
set_option linter.unusedVariables false
set_option linter.unusedSimpArgs false
open Go.ChangeShapes Go.WideShapes Go.ChangeAt Go.RowKit

/-- THE FRAME of the second form, with variables listed. -/
theorem law_lifted_uptolaid {C : Checked} {os : Os} {f : FuncId} {fn : Func} {s : ChangeSpec} {H : Type} {enc : TypeId × Value → H} {F : Stop.Interp} {L : List (String × DataW Unit)} (own : ownKnob C.prog.godebug = none) (started : os.Started) (noInit : C.prog.inits.idxOf? f = none) (hfn : C.prog.funcs[f]? = some fn)
    (witness : ∃ (w : World) (tape : Tape) (i : Input), w.os = os ∧ (w.forCall tape i).Shaped C.prog ∧ i.vars = [] ∧ Input.okWide C.prog (w.forCall tape i) .any w.heap.size f i ∧
      (Rows.OpenSpec.upto s).preRow enc C.prog fn [] false L (w.forCall tape i).memory i.args ∧ ({} : Assume).holds C.prog (lone (Frame.enter C.prog f i.args .normal) [] (w.forCall tape i)))
    (hvars : s.vars = []) (tb : TypeId) (hres : fn.resultTypes = #[tb]) (hbool : C.prog.underlying tb = some .bool)
    (hs : ∀ ds : List (DataW H), ds.length = fn.params.toList.length → (s.fn H (ds ++ [])).results = [.lit (.bool true)] ∧ (s.fn H (ds ++ [])).args = ds ∧ (s.fn H (ds ++ [])).vars = [])
    (hl : laidOutB C.prog = true) (hts : ∀ t ∈ fn.params.toList, C.prog.readableRec t = true ∧ t < C.prog.types.size)
    (walk : ∀ (W : World) (base : Nat) (args : Array Value) (ds : List (DataW H)) (p : List MemPlace), (∀ (j : Nat) t v, fn.params[j]? = some t → args[j]? = some v → Value.okWide C.prog W .any base t v) →
      DataW.TrodAll enc C.prog W 0 (fun _ => true) true fn.params.toList args.toList ds p → Rows.uptoBulkAll ds ≤ 1048576 → laidMetH C.prog L W → W.ShapedOpen C.prog →
      Calls C.prog f args W fun e W' => e = .returned (.bool true) ∧ Below W.heap.size W W') :
    ReturnsInHanded {} C os f .any ((Rows.OpenSpec.upto s).preRow enc C.prog fn [] false L) (((Rows.OpenSpec.upto s).at F).post enc C.prog fn false true false false) := by
  refine returnsInHanded_of_row (s := Rows.OpenSpec.upto s) own started noInit hfn witness ?_
  intro W base args ds gs before hval hW _ hk _ hL hsh _
  have hW' := hW
  obtain ⟨p, q, hA, hV, hbe, hfz, hnd⟩ := hW
  have hvars' : (Rows.OpenSpec.upto s).vars = [] := hvars
  rw [hvars'] at hV
  obtain ⟨rfl, rfl⟩ := trodVars_none hV
  have hk' := hk _ rfl
  rw [List.append_nil] at hk'
  refine (walk W base args ds p hval hA (of_decide_eq_true hk') hL hsh).mono fun e W' ⟨he, bel⟩ => ?_
  subst he
  obtain ⟨s1, s2, s3⟩ := hs ds (trodAll_length hA)
  refine ⟨_, rfl, ds, [], before, [], p, [], hW', ?_, ?_, ?_, bel.frame _, fun h => by cases h⟩
  · show DataW.TrodAll enc C.prog W' _ _ _ fn.resultTypes.toList _ (s.fn H (ds ++ [])).results []
    rw [s1, hres]
    exact trodAll_mk1 (shut_bool hbool _)
  · show DataW.TrodAll enc C.prog W' _ _ _ fn.params.toList args.toList (s.fn H (ds ++ [])).args p
    rw [s2]
    exact below_trodAll hl bel hts hA
  · show DataW.TrodVars enc C.prog W' _ s.vars (s.fn H (ds ++ [])).vars []
    rw [s3, hvars]
    rfl
/-! ### what the bound gives -/
theorem bulk_part {H : Type} {d : DataW H} {l : List (DataW H)} (h : d ∈ l) : Rows.uptoBulk d ≤ Rows.uptoBulkAll l := by
  induction l with
  | nil => cases h
  | cons x r ih =>
    simp only [Rows.uptoBulkAll]
    cases List.mem_cons.1 h with
    | inl e => subst e; omega
    | inr e => have := ih e; omega
theorem bulk_string {H : Type} (bytes : List UInt8) : Rows.uptoBulk (DataW.lit (H := H) (.string bytes)) = bytes.length + 1 := by
  simp [Rows.uptoBulk]
end Go.Proofs.YtjcefgjgjhdbpaaGreatDoor
