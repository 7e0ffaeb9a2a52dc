/-
  From a walk that answers true and leaves all old memory as it was to a law's row: one frame for all laws whose rows list no variable. A helper text of this seat; no conditions beyond those typed.
  From a walk that answers true and leaves all old memory as it was to a law's second form ('..UptoSaid'): the frame for rows that list no variable; what the bound on the bulk gives. A helper text of this seat; no conditions beyond those typed.
  What is of small bulk takes little memory. Helper text; the conditions are those typed.
  What came in has no more tokens than its bulk. Helper text; the conditions are those typed.
-/
import Derived.WalkKit
import Derived.ProofKit
import Derived.OpenShut
import Derived.SizedLaws
import Derived.Test.YtbdankpkdhhlmaaGreatRows
import Derived.JoinedCond
import Derived.Test.YtbdankpkdhhlmaaGreatLawsA
import Derived.Test.YtbdankpkdhhlmaaGreatArgRepo
import Derived.Test.YtbdankpkdhhlmaaGreatStaysA
namespace Go.Proofs.YtbdankpkdhhlmaaGreat
set_option linter.unusedVariables false
set_option linter.unusedSimpArgs false
open Go.ChangeShapes Go.WideShapes Go.ChangeAt Go.RowKit

/-- What was read of the arguments is read of them again while old memory stays. -/
theorem below_trodAll {H : Type} {enc : TypeId × Value → H} {P : Program} (hl : laidOutB P = true) {W W' : World} (hb : Below W.heap.size W W') :
    ∀ {ts : List TypeId} {vs : List Value} {ds : List (DataW H)} {ps : List MemPlace}, (∀ t ∈ ts, P.readableRec t = true ∧ t < P.types.size) → DataW.TrodAll enc P W 0 (fun _ => true) true ts vs ds ps →
      DataW.TrodAll enc P W' 0 (fun b => decide (b < W.heap.size)) true ts vs ds ps
  | [], vs, ds, ps, _, h => by
    obtain ⟨rfl, rfl, rfl⟩ := trodAll_nil h
    exact trodAll_mk0
  | t :: ts, vs, ds, ps, hts, h => by
    obtain ⟨v, vs', d, ds', p, q, rfl, rfl, rfl, h0, hr⟩ := trodAll_cons h
    obtain ⟨r1, r2⟩ := hts t (by simp)
    refine trodAll_cons_mk (Below.trod hl r1 r2 h0 hb (by obtain ⟨m, hm⟩ := h0; exact DataW.trod_lt m _ _ _ hm)) (below_trodAll hl hb (fun u hu => hts u (by simp [hu])) hr)

theorem trodAll_length {H : Type} {enc : TypeId × Value → H} {P : Program} {w : World} {base : Nat} {sp : Nat → Bool} {held : Bool} :
    ∀ {ts : List TypeId} {vs : List Value} {ds : List (DataW H)} {ps : List MemPlace}, DataW.TrodAll enc P w base sp held ts vs ds ps → ds.length = ts.length
  | [], vs, ds, ps, h => by
    obtain ⟨rfl, rfl, rfl⟩ := trodAll_nil h
    rfl
  | t :: ts, vs, ds, ps, h => by
    obtain ⟨v, vs', d, ds', p, q, rfl, rfl, rfl, h0, hr⟩ := trodAll_cons h
    simp [trodAll_length hr]

/-- THE FRAME: a law whose walk answers true and leaves old memory alone. -/
theorem law_lifted {C : Checked} {os : Os} {f : FuncId} {fn : Func} {s : ChangeSpec} {H : Type} {enc : TypeId × Value → H} (own : ownKnob C.prog.godebug = none) (started : os.Started) (noInit : C.prog.inits.idxOf? f = none) (hfn : C.prog.funcs[f]? = some fn)
    (witness : ∃ (w : World) (tape : Tape) (i : Input), w.os = os ∧ (w.forCall tape i).Shaped C.prog ∧ i.vars = [] ∧ Input.okWide C.prog (w.forCall tape i) .any w.heap.size f i ∧
      s.pre6 enc C.prog fn [] false (w.forCall tape i).memory i.args ∧ ({} : Assume).holds C.prog (lone (Frame.enter C.prog f i.args .normal) [] (w.forCall tape i)))
    (hvars : s.vars = []) (tb : TypeId) (hres : fn.resultTypes = #[tb]) (hbool : C.prog.underlying tb = some .bool)
    (hs : ∀ ds : List (DataW H), ds.length = fn.params.toList.length → (s.fn H (ds ++ [])).results = [.lit (.bool true)] ∧ (s.fn H (ds ++ [])).args = ds ∧ (s.fn H (ds ++ [])).vars = [])
    (hl : laidOutB C.prog = true) (hts : ∀ t ∈ fn.params.toList, C.prog.readableRec t = true ∧ t < C.prog.types.size)
    (walk : ∀ (W : World) (base : Nat) (args : Array Value) (ds : List (DataW H)) (p : List MemPlace), (∀ (j : Nat) t v, fn.params[j]? = some t → args[j]? = some v → Value.okWide C.prog W .any base t v) →
      DataW.TrodAll enc C.prog W 0 (fun _ => true) true fn.params.toList args.toList ds p → (DataW.weightsEach C.prog fn.params.toList ds).all (· ≤ reachBytes) = true →
      Calls C.prog f args W fun e W' => e = .returned (.bool true) ∧ Below W.heap.size W W') :
    ReturnsInHanded {} C os f .any (s.pre6 enc C.prog fn [] false) (s.post enc C.prog fn false true false false) := by
  refine returnsInHanded_of_change_sized own started noInit hfn witness ?_
  intro W base args ds gs before hval hW _ hsz _
  have hW' := hW
  obtain ⟨p, q, hA, hV, hbe, hfz, hnd⟩ := hW
  rw [hvars] at hV
  obtain ⟨rfl, rfl⟩ := trodVars_none hV
  have hvt : s.plain.varTypes C.prog = [] := by
    simp [ChangeSpec.plain, hvars, DataSpec.varTypes]
  rw [hvt] at hsz
  simp only [List.append_nil] at hsz
  refine (walk W base args ds p hval hA hsz).mono fun e W' ⟨he, bel⟩ => ?_
  · subst he
    obtain ⟨s1, s2, s3⟩ := hs ds (trodAll_length hA)
    refine ⟨_, rfl, ds, [], before, [], p, [], hW', ?_, ?_, ?_, bel.frame _, fun h => by cases h⟩
    · rw [s1, hres]
      exact trodAll_mk1 (shut_bool hbool _)
    · rw [s2]
      exact below_trodAll hl bel hts hA
    · rw [s3, hvars]
      rfl
end Go.Proofs.YtbdankpkdhhlmaaGreat
namespace Go.Proofs.YtbdankpkdhhlmaaGreat
set_option linter.unusedVariables false
set_option linter.unusedSimpArgs false
open Go.ChangeShapes Go.WideShapes Go.ChangeAt Go.RowKit

/-- THE FRAME of the second form. -/
theorem law_lifted_upto {C : Checked} {os : Os} {f : FuncId} {fn : Func} {s : ChangeSpec} {H : Type} {enc : TypeId × Value → H} {F : Stop.Interp} (own : ownKnob C.prog.godebug = none) (started : os.Started) (noInit : C.prog.inits.idxOf? f = none) (hfn : C.prog.funcs[f]? = some fn)
    (witness : ∃ (w : World) (tape : Tape) (i : Input), w.os = os ∧ (w.forCall tape i).Shaped C.prog ∧ i.vars = [] ∧ Input.okWide C.prog (w.forCall tape i) .any w.heap.size f i ∧
      (Rows.OpenSpec.upto s).pre6 enc C.prog fn [] false (w.forCall tape i).memory i.args ∧ ({} : Assume).holds C.prog (lone (Frame.enter C.prog f i.args .normal) [] (w.forCall tape i)))
    (hvars : s.vars = []) (tb : TypeId) (hres : fn.resultTypes = #[tb]) (hbool : C.prog.underlying tb = some .bool)
    (hs : ∀ ds : List (DataW H), ds.length = fn.params.toList.length → (s.fn H (ds ++ [])).results = [.lit (.bool true)] ∧ (s.fn H (ds ++ [])).args = ds ∧ (s.fn H (ds ++ [])).vars = [])
    (hl : laidOutB C.prog = true) (hts : ∀ t ∈ fn.params.toList, C.prog.readableRec t = true ∧ t < C.prog.types.size)
    (walk : ∀ (W : World) (base : Nat) (args : Array Value) (ds : List (DataW H)) (p : List MemPlace), (∀ (j : Nat) t v, fn.params[j]? = some t → args[j]? = some v → Value.okWide C.prog W .any base t v) →
      DataW.TrodAll enc C.prog W 0 (fun _ => true) true fn.params.toList args.toList ds p → Rows.uptoBulkAll ds ≤ 1048576 →
      Calls C.prog f args W fun e W' => e = .returned (.bool true) ∧ Below W.heap.size W W') :
    ReturnsInHanded {} C os f .any ((Rows.OpenSpec.upto s).pre6 enc C.prog fn [] false) (((Rows.OpenSpec.upto s).at F).post enc C.prog fn false true false false) := by
  refine returnsInHanded_of_cond (s := Rows.OpenSpec.upto s) (k := Rows.uptoSmall) rfl own started noInit hfn witness ?_
  intro W base args ds gs before hval hW _ hk _
  have hW' := hW
  obtain ⟨p, q, hA, hV, hbe, hfz, hnd⟩ := hW
  have hvars' : (Rows.OpenSpec.upto s).vars = [] := hvars
  rw [hvars'] at hV
  obtain ⟨rfl, rfl⟩ := trodVars_none hV
  rw [List.append_nil] at hk
  refine (walk W base args ds p hval hA (of_decide_eq_true hk)).mono fun e W' ⟨he, bel⟩ => ?_
  subst he
  obtain ⟨s1, s2, s3⟩ := hs ds (trodAll_length hA)
  refine ⟨_, rfl, ds, [], before, [], p, [], hW', ?_, ?_, ?_, bel.frame _, fun h => by cases h⟩
  · show DataW.TrodAll enc C.prog W' _ _ _ fn.resultTypes.toList _ (s.fn H (ds ++ [])).results []
    rw [s1, hres]
    exact trodAll_mk1 (shut_bool hbool _)
  · show DataW.TrodAll enc C.prog W' _ _ _ fn.params.toList args.toList (s.fn H (ds ++ [])).args p
    rw [s2]
    exact below_trodAll hl bel hts hA
  · show DataW.TrodVars enc C.prog W' _ s.vars (s.fn H (ds ++ [])).vars []
    rw [s3, hvars]
    rfl

/-! ### what the bound gives -/
theorem bulk_one {H : Type} (d : DataW H) : 1 ≤ Rows.uptoBulk d := by
  cases d with
  | lit l => cases l <;> simp [Rows.uptoBulk]
  | nil => simp [Rows.uptoBulk]
  | ptr d => simp [Rows.uptoBulk]
  | slice elems spare => simp [Rows.uptoBulk]
  | agg parts => simp [Rows.uptoBulk]
  | iface t d => simp [Rows.uptoBulk]
  | map entries => simp [Rows.uptoBulk]
  | held h => simp [Rows.uptoBulk]
theorem bulk_part {H : Type} {d : DataW H} {l : List (DataW H)} (h : d ∈ l) : Rows.uptoBulk d ≤ Rows.uptoBulkAll l := by
  induction l with
  | nil => cases h
  | cons x r ih =>
    simp only [Rows.uptoBulkAll]
    cases List.mem_cons.1 h with
    | inl e => subst e; omega
    | inr e => have := ih e; omega
theorem bulk_append {H : Type} (l r : List (DataW H)) : Rows.uptoBulkAll (l ++ r) = Rows.uptoBulkAll l + Rows.uptoBulkAll r := by
  induction l with
  | nil => simp [Rows.uptoBulkAll]
  | cons x l ih => simp only [List.cons_append, Rows.uptoBulkAll, ih]; omega
theorem bulk_length {H : Type} (l : List (DataW H)) : l.length ≤ Rows.uptoBulkAll l := by
  induction l with
  | nil => simp [Rows.uptoBulkAll]
  | cons x r ih => have := bulk_one x; simp only [Rows.uptoBulkAll, List.length_cons]; omega
theorem bulk_slice {H : Type} (elems spare : List (DataW H)) : Rows.uptoBulkAll elems + 1 ≤ Rows.uptoBulk (.slice elems spare) := by
  simp only [Rows.uptoBulk]
  omega
theorem bulk_string {H : Type} (bytes : List UInt8) : Rows.uptoBulk (DataW.lit (H := H) (.string bytes)) = bytes.length + 1 := by
  simp [Rows.uptoBulk]
/-- A slice that came in is no longer than the bulk. -/
theorem bulk_len {H : Type} {enc : TypeId × Value → H} {P : Program} {w : World} {base : Nat} {sp : Nat → Bool} {held : Bool} {t e : TypeId} {a : Option Addr} {len cap : Nat} {d : DataW H} {p : List MemPlace}
    (ht : P.underlying t = some (.slice e)) (h : DataW.Trod enc P w base sp held t (.slice a len cap) d p) : len + 1 ≤ Rows.uptoBulk d := by
  obtain ⟨fuel, hf⟩ := h
  rcases DataW.trod_slice ht hf with ⟨hcs, hx⟩ | ⟨x, l, c, elems, rest, n, _, hcs, hx, _, hl, hm, hle, _⟩
  · simp [Value.cells] at hcs
    obtain ⟨rfl, rfl, rfl⟩ := hcs
    have := bulk_one d
    omega
  · simp [Value.cells] at hcs
    obtain ⟨rfl, rfl, rfl⟩ := hcs
    obtain ⟨rfl, rfl⟩ := Prod.mk.inj hx
    have h1 := bulk_slice (elems.map (·.1)) (rest.map (·.1))
    have h2 := bulk_length (elems.map (·.1))
    simp only [List.length_map, hle] at h2
    omega
end Go.Proofs.YtbdankpkdhhlmaaGreat
namespace Go.Proofs.YtbdankpkdhhlmaaGreat
set_option linter.unusedVariables false
set_option linter.unusedSimpArgs false
open Go.ChangeShapes Go.WideShapes Go.RowKit

/-- The types of a program: those of a type are among them, none is large. -/
structure TypesOk (P : Program) (N : Nat) : Prop where
  bytes : ∀ t, t < N → P.bytesOf t ≤ 65536
  slice : ∀ t e, t < N → P.underlying t = some (.slice e) → e < N
  ptr : ∀ t e, t < N → P.underlying t = some (.pointer e) → e < N
  arr : ∀ t n e, t < N → P.underlying t = some (.array n e) → e < N
  map : ∀ t k e, t < N → P.underlying t = some (.map k e) → k < N ∧ e < N
  struct : ∀ t fs, t < N → P.underlying t = some (.struct fs) → ∀ x ∈ fs.toList.map (·.type), x < N
def typeOkB (P : Program) (N t : Nat) : Bool := decide (P.bytesOf t ≤ 65536) && match P.underlying t with
  | some (.slice e) => decide (e < N)
  | some (.pointer e) => decide (e < N)
  | some (.array _ e) => decide (e < N)
  | some (.map k e) => decide (k < N) && decide (e < N)
  | some (.struct fs) => (fs.toList.map (·.type)).all fun x => decide (x < N)
  | _ => true
theorem typesOk_of {P : Program} {N : Nat} (h : (List.range N).all (typeOkB P N) = true) : TypesOk P N := by
  have h1 : ∀ t, t < N → typeOkB P N t = true := fun t ht => List.all_eq_true.1 h t (List.mem_range.2 ht)
  unfold typeOkB at h1
  refine ⟨fun t ht => ?_, fun t e ht hu => ?_, fun t e ht hu => ?_, fun t n e ht hu => ?_, fun t k e ht hu => ?_, fun t fs ht hu x hx => ?_⟩
  · have := h1 t ht
    rw [Bool.and_eq_true] at this
    simpa using this.1
  all_goals
    have := h1 t ht
    rw [hu] at this
    simp only [Bool.and_eq_true, decide_eq_true_eq, List.all_eq_true] at this
  · exact this.2
  · exact this.2
  · exact this.2
  · exact this.2
  · exact this.2 x hx
set_option maxRecDepth 100000 in
theorem types_ok : TypesOk Tryz.prog Tryz.prog.types.size := typesOk_of (by kernel_rfl)
mutual
theorem w_small {H : Type} {P : Program} {N : Nat} (hP : TypesOk P N) : ∀ (d : DataW H) (t : TypeId), t < N → ∀ z ∈ d.weights P t, z ≤ 131072 * Rows.uptoBulk d
  | .lit (.string bytes), t, ht, z, hz => by
    simp only [DataW.weights, List.mem_singleton] at hz
    simp only [Rows.uptoBulk]
    omega
  | .lit (.bool b), t, ht, z, hz => by simp [DataW.weights] at hz
  | .lit (.int k n), t, ht, z, hz => by simp [DataW.weights] at hz
  | .lit .nil, t, ht, z, hz => by simp [DataW.weights] at hz
  | .lit (.float k n), t, ht, z, hz => by simp [DataW.weights] at hz
  | .nil, t, ht, z, hz => by simp [DataW.weights] at hz
  | .held _, t, ht, z, hz => by simp [DataW.weights] at hz
  | .iface _ _, t, ht, z, hz => by simp [DataW.weights] at hz
  | .ptr d, t, ht, z, hz => by
    simp only [DataW.weights] at hz
    simp only [Rows.uptoBulk]
    split at hz
    · rename_i e he
      have := w_small hP d _ (hP.ptr t e ht he) z hz
      omega
    · cases hz
  | .slice elems spare, t, ht, z, hz => by
    simp only [DataW.weights] at hz
    simp only [Rows.uptoBulk]
    split at hz
    · rename_i e he
      have hee := hP.slice t e ht he
      rcases List.mem_cons.1 hz with rfl | hz
      · have h1 := bulk_length elems
        have h2 := bulk_length spare
        have h3 := hP.bytes e hee
        have h4 := Nat.mul_le_mul_left (elems.length + spare.length) h3
        generalize (elems.length + spare.length) * P.bytesOf e = y at h4 ⊢
        omega
      · rcases List.mem_append.1 hz with hz | hz
        · have := w_all hP elems e hee z hz
          omega
        · have := w_all hP spare e hee z hz
          omega
    · cases hz
  | .agg parts, t, ht, z, hz => by
    simp only [DataW.weights] at hz
    simp only [Rows.uptoBulk]
    split at hz
    · rename_i fs he
      have := w_each hP _ parts (hP.struct t fs ht he) z hz
      omega
    · rename_i n e he
      have := w_all hP parts _ (hP.arr t n e ht he) z hz
      omega
    · cases hz
  | .map entries, t, ht, z, hz => by
    simp only [DataW.weights] at hz
    simp only [Rows.uptoBulk]
    split at hz
    · rename_i k e he
      obtain ⟨hkk, hee⟩ := hP.map t k e ht he
      rcases List.mem_cons.1 hz with rfl | hz
      · have h1 := w_count entries
        have h3 := hP.bytes e hee
        have h5 := hP.bytes k hkk
        have h6 : P.bytesOf k + P.bytesOf e ≤ 131072 := by
          generalize P.bytesOf k = y1 at h5 ⊢
          generalize P.bytesOf e = y2 at h3 ⊢
          omega
        have h4 := Nat.mul_le_mul_left entries.length h6
        generalize entries.length * (P.bytesOf k + P.bytesOf e) = y at h4 ⊢
        clear h3 h5 h6
        omega
      · have := w_entries hP entries e hee z hz
        omega
    · cases hz
theorem w_all {H : Type} {P : Program} {N : Nat} (hP : TypesOk P N) : ∀ (l : List (DataW H)) (e : TypeId), e < N → ∀ z ∈ DataW.weightsAll P e l, z ≤ 131072 * Rows.uptoBulkAll l
  | [], e, ht, z, hz => by simp [DataW.weightsAll] at hz
  | d :: r, e, ht, z, hz => by
    simp only [DataW.weightsAll, List.mem_append] at hz
    simp only [Rows.uptoBulkAll]
    rcases hz with hz | hz
    · have := w_small hP d e ht z hz
      omega
    · have := w_all hP r e ht z hz
      omega
theorem w_each {H : Type} {P : Program} {N : Nat} (hP : TypesOk P N) : ∀ (ts : List TypeId) (l : List (DataW H)), (∀ x ∈ ts, x < N) → ∀ z ∈ DataW.weightsEach P ts l, z ≤ 131072 * Rows.uptoBulkAll l
  | [], l, ht, z, hz => by simp [DataW.weightsEach] at hz
  | t :: ts, [], ht, z, hz => by simp [DataW.weightsEach] at hz
  | t :: ts, d :: r, ht, z, hz => by
    simp only [DataW.weightsEach, List.mem_append] at hz
    simp only [Rows.uptoBulkAll]
    rcases hz with hz | hz
    · have := w_small hP d t (ht t (by simp)) z hz
      omega
    · have := w_each hP ts r (fun x hx => ht x (List.mem_cons_of_mem _ hx)) z hz
      omega
theorem w_count {H : Type} : ∀ (l : List (Lit × DataW H)), l.length ≤ Rows.uptoBulkEntries l
  | [] => by simp
  | x :: r => by
    have := w_count r
    have h2 : 1 ≤ Rows.uptoBulkEntry x := by
      obtain ⟨k, d⟩ := x
      cases k <;> simp [Rows.uptoBulkEntry]
    simp only [Rows.uptoBulkEntries, List.length_cons]
    omega
theorem w_entries {H : Type} {P : Program} {N : Nat} (hP : TypesOk P N) : ∀ (l : List (Lit × DataW H)) (e : TypeId), e < N → ∀ z ∈ DataW.weightsEntries P e l, z ≤ 131072 * Rows.uptoBulkEntries l
  | [], e, ht, z, hz => by simp [DataW.weightsEntries] at hz
  | (k, d) :: r, e, ht, z, hz => by
    simp only [DataW.weightsEntries, List.mem_append] at hz
    simp only [Rows.uptoBulkEntries]
    rcases hz with hz | hz
    · have h1 := w_small hP d e ht
      cases k with
      | string bytes =>
        simp only [DataW.weightsEntry, List.mem_cons] at hz
        simp only [Rows.uptoBulkEntry]
        rcases hz with rfl | hz
        · omega
        · have := h1 z hz
          omega
      | _ =>
        simp only [DataW.weightsEntry] at hz
        simp only [Rows.uptoBulkEntry]
        have := h1 z hz
        omega
    · have := w_entries hP r e ht z hz
      omega
end
/-- What is of bulk at most 2^20 takes no more than can be reached. -/
theorem weights_reach {H : Type} {d : DataW H} {t : TypeId} (h : Rows.uptoBulk d ≤ 1048576) (ht : t < Tryz.prog.types.size) : ∀ z ∈ d.weights Tryz.prog t, z ≤ reachBytes := fun z hz => by
  have h1 := w_small types_ok d t ht z hz
  have : reachBytes = 140737488351232 := rfl
  omega
end Go.Proofs.YtbdankpkdhhlmaaGreat
namespace Go.Proofs.YtbdankpkdhhlmaaGreat
set_option linter.unusedVariables false
set_option linter.unusedSimpArgs false
open Go.ChangeShapes Go.WideShapes Go.RowKit Go.Maps

theorem upto_all {H : Type} (g : Nat → Nat) (l : List (DataW H)) (h : ∀ i (hi : i < l.length), g i ≤ Rows.uptoBulk l[i]) : upto g l.length ≤ Rows.uptoBulkAll l := by
  have h1 : ∀ k, k ≤ l.length → upto g k ≤ Rows.uptoBulkAll (l.take k) := by
    intro k
    induction k with
    | zero => intro _; exact Nat.zero_le _
    | succ k ih =>
      intro hk
      have hk2 : k < l.length := by omega
      rw [List.take_add_one, List.getElem?_eq_getElem hk2, Option.toList_some, bulk_append]
      have h2 := ih (by omega)
      have h3 := h k hk2
      have h4 : Rows.uptoBulkAll [l[k]] = Rows.uptoBulk l[k] := by simp [Rows.uptoBulkAll]
      unfold upto
      omega
  have h2 := h1 l.length (Nat.le_refl _)
  rwa [List.take_length] at h2
theorem flat_upto : ∀ (n : Nat) (g : Fin n → List Tok) (f : Nat → Nat), (∀ i, (g i).length ≤ f i.val) → ((List.finRange n).flatMap g).length ≤ upto f n
  | 0, g, f, h => by simp
  | n + 1, g, f, h => by
    rw [List.finRange_succ_last, List.flatMap_append, List.length_append, List.flatMap_map, List.flatMap_singleton]
    have h1 := flat_upto n (fun i => g i.castSucc) f (fun i => h i.castSucc)
    have h2 := h (Fin.last n)
    unfold upto
    have h3 : (g (Fin.last n)).length ≤ f n := h2
    omega
theorem flat_upto_list {α : Type} (g : α → List Tok) (f : Nat → Nat) (l : List α) (h : ∀ i (hi : i < l.length), (g l[i]).length ≤ f i) : (l.flatMap g).length ≤ upto f l.length := by
  have h1 : ∀ k, k ≤ l.length → ((l.take k).flatMap g).length ≤ upto f k := by
    intro k
    induction k with
    | zero => intro _; simp
    | succ k ih =>
      intro hk
      have hk2 : k < l.length := by omega
      rw [List.take_add_one, List.getElem?_eq_getElem hk2, Option.toList_some, List.flatMap_append, List.flatMap_singleton, List.length_append]
      have h2 := ih (by omega)
      have h3 := h k hk2
      unfold upto
      omega
  have h2 := h1 l.length (Nat.le_refl _)
  rwa [List.take_length] at h2
section
variable {H : Type} {enc : TypeId × Value → H} {w : World} {sp : Nat → Bool} {held : Bool}
theorem slice_bulk {t e : TypeId} (ht : Tryz.prog.underlying t = some (.slice e)) {N : Nat} (hN : Tryz.prog.cellsOf e = N) {fuel : Nat} {a : Option Addr} {n c : Nat} {x : DataW H × List MemPlace} (h : DataW.trod enc Tryz.prog w 0 sp held fuel t [.slice a n c] = some x) (g : Nat → Nat)
    (hg : ∀ i, i < n → ∀ b, a = some b → ∀ m, m < fuel → ∀ cs y, w.cells? 0 (b.add (i * N)) N = some cs → DataW.trod enc Tryz.prog w 0 sp held m e cs = some y → g i ≤ Rows.uptoBulk y.1) : upto g n + 1 ≤ Rows.uptoBulk x.1 := by
  rcases DataW.trod_slice ht h with ⟨e, _⟩ | ⟨a', len, cap, elems, rest, m, hf, hcs, hx, _, hl, hm, hle, he, _, _⟩
  · simp only [List.cons.injEq, and_true] at e
    injection e with _ e2 _
    subst e2
    have := bulk_one x.1
    show 0 + 1 ≤ _
    omega
  · simp only [List.cons.injEq, and_true] at hcs
    injection hcs with e1 e2 e3
    subst e1 e2
    rw [hx]
    have h2 := bulk_slice (elems.map (·.1)) (rest.map (·.1))
    have h3 := upto_all g (elems.map (·.1)) (fun i hi => by
      rw [List.length_map] at hi
      have h1 := he i (by omega)
      rw [hN] at h1
      rw [List.getElem?_eq_getElem hi] at h1
      cases hc : w.cells? 0 (a'.add (i * N)) N with
      | none => rw [hc] at h1; cases h1
      | some cs =>
        rw [hc] at h1
        replace h1 : DataW.trod enc Tryz.prog w 0 sp held m e cs = some elems[i] := h1
        rw [List.getElem_map]
        exact hg i (by omega) a' rfl m (by omega) cs elems[i] hc h1)
    rw [List.length_map] at h3
    have : elems.length = n := by omega
    rw [this] at h3
    show _ ≤ Rows.uptoBulk (.slice (elems.map (·.1)) (rest.map (·.1)))
    omega
/-- Cells that are read twice are the same. -/
theorem cells_same {b off k N : Nat} {cs cs' : List Value} (h : w.cells? 0 ((⟨b, off, none⟩ : Addr).add k) N = some cs) (hc : CellsAt w b (off + k) cs') (hl : cs'.length = N) : cs = cs' := by
  obtain ⟨_, hlen, hcell⟩ := World.cells?_some h
  refine List.ext_getElem? fun j => ?_
  by_cases hj : j < N
  · have h1 := hcell (i := j) (by omega)
    rw [Addr.add_add, addr_add] at h1
    have hj' : j < cs'.length := by omega
    have h2 := hc j cs'[j] (List.getElem?_eq_getElem hj')
    rw [← Nat.add_assoc] at h1
    rw [h1] at h2
    rw [List.getElem?_eq_getElem hj', ← h2]
  · rw [List.getElem?_eq_none (by omega), List.getElem?_eq_none (by omega)]
theorem tokDep_le (k : Int) (nm : ByteArray) (op : Int) (ev : ByteArray) (n : Nat) (args : Fin n → DepT) : (tokDep (.mk k nm op ev n args)).length ≤ 4 + (tokDeps n args).length := by
  by_cases hk : k = 1
  · subst hk
    rw [tokDep_name]
    simp only [List.length_cons]
    split
    · simp only [List.length_singleton]; omega
    · simp only [List.length_nil]; omega
  · rw [tokDep_node hk, List.length_cons]
    omega
set_option maxRecDepth 100000 in
theorem deps_bulk (S : Nat → Prop) : ∀ (fuel : Nat) (v : Value) (x : DataW H × List MemPlace), DataW.trod enc Tryz.prog w 0 sp held fuel 42 [v] = some x → ∀ n args, DepsV w S n args v → (tokDeps n args).length ≤ Rows.uptoBulk x.1 := by
  intro fuel
  induction fuel using Nat.strongRecOn with
  | ind fuel IH =>
  intro v x h n args hv
  obtain ⟨a, c, rfl, _, hin⟩ := hv
  have hS := slice_bulk Tryz.underlying42 cells85 h (fun i => if hi : i < n then (tokDep (args ⟨i, hi⟩)).length else 0) (fun i hi b hb m hm cs y hc hy => by
    simp only [dif_pos hi]
    obtain ⟨b2, off, e, _, hq⟩ := hin (by omega)
    rw [hb] at e
    injection e with e
    subst e
    obtain ⟨cs', hd, hca⟩ := hq ⟨i, hi⟩
    have hcc := cells_same hc hca hd.len
    subst hcc
    generalize args ⟨i, hi⟩ = d at hd ⊢
    cases d with
    | mk k nm op ev n2 args2 =>
    obtain ⟨v2, rfl, _, _, _, hv2⟩ := depC_iff.1 hd
    obtain ⟨xs, m', hm', hx', hcl, hxl, hfs⟩ := DataW.trod_struct Tryz.underlying52 hy
    obtain ⟨x0, x1, x2, x3, x4, rfl⟩ := five (hxl.trans rfl)
    have f4 : DataW.trod enc Tryz.prog w 0 sp held m' 42 ((([.int .i64 k, .string nm, .int .i64 op, .string ev, v2] : List Value).drop 4).take (Tryz.prog.cellsOf 42)) = some x4 := hfs 4 _ rfl
    rw [cells23] at f4
    replace f4 : DataW.trod enc Tryz.prog w 0 sp held m' 42 [v2] = some x4 := f4
    have h4 := IH m' (by omega) v2 x4 f4 n2 args2 hv2
    have h5 := tokDep_le k nm op ev n2 args2
    rw [hx']
    have b0 := bulk_one x0.1
    have b1 := bulk_one x1.1
    have b2 := bulk_one x2.1
    have b3 := bulk_one x3.1
    simp only [List.map_cons, List.map_nil, Rows.uptoBulk, Rows.uptoBulkAll]
    omega)
  have hF := flat_upto n (fun i => tokDep (args i)) (fun i => if hi : i < n then (tokDep (args ⟨i, hi⟩)).length else 0) (fun i => by simp only [dif_pos i.isLt]; exact Nat.le_refl _)
  unfold tokDeps
  rw [List.length_cons]
  omega
theorem strs_bulk {S : Nat → Prop} {fuel : Nat} {v : Value} {x : DataW H × List MemPlace} (h : DataW.trod enc Tryz.prog w 0 sp held fuel 43 [v] = some x) {l : List ByteArray} (hv : StrsV w S l v) : l.length + 1 ≤ Rows.uptoBulk x.1 := by
  obtain ⟨a, c, rfl, _⟩ := hv
  have hS := slice_bulk Tryz.underlying43 cells9 h (fun _ => 1) (fun i hi b hb m hm cs y hc hy => bulk_one y.1)
  have h2 := upto_len (fun _ => 1) l.length (fun _ _ => Nat.le_refl _)
  omega
set_option maxRecDepth 100000 in
theorem pkg_bulk {S : Nat → Prop} {fuel : Nat} {p : PkgT} {v : Fin 7 → Value} {vf : Value} {x : DataW H × List MemPlace} (h : DataW.trod enc Tryz.prog w 0 sp held fuel 45 (pkgCells p.name p.evr p.arch p.vendor v vf) = some x) (hv : PkgV w S p v vf) : (tokPkg p).length ≤ Rows.uptoBulk x.1 := by
  obtain ⟨xs, m', hm', hx', hcl, hxl, hfs⟩ := DataW.trod_struct Tryz.underlying45 h
  obtain ⟨x0, x1, x2, x3, x4, x5, x6, x7, x8, x9, x10, x11, rfl⟩ := twelve (hxl.trans rfl)
  have f0 : DataW.trod enc Tryz.prog w 0 sp held m' 42 ((([.string p.name, .string p.evr, .string p.arch, .string p.vendor, v 0, v 1, v 2, v 3, v 4, v 5, v 6, vf] : List Value).drop 4).take (Tryz.prog.cellsOf 42)) = some x4 := hfs 4 _ rfl
  rw [cells23] at f0
  replace f0 : DataW.trod enc Tryz.prog w 0 sp held m' 42 [v 0] = some x4 := f0
  have h0 := deps_bulk S m' (v 0) x4 f0 _ _ (hv.deps 0)
  have f1 : DataW.trod enc Tryz.prog w 0 sp held m' 42 ((([.string p.name, .string p.evr, .string p.arch, .string p.vendor, v 0, v 1, v 2, v 3, v 4, v 5, v 6, vf] : List Value).drop 5).take (Tryz.prog.cellsOf 42)) = some x5 := hfs 5 _ rfl
  rw [cells23] at f1
  replace f1 : DataW.trod enc Tryz.prog w 0 sp held m' 42 [v 1] = some x5 := f1
  have h1 := deps_bulk S m' (v 1) x5 f1 _ _ (hv.deps 1)
  have f2 : DataW.trod enc Tryz.prog w 0 sp held m' 42 ((([.string p.name, .string p.evr, .string p.arch, .string p.vendor, v 0, v 1, v 2, v 3, v 4, v 5, v 6, vf] : List Value).drop 6).take (Tryz.prog.cellsOf 42)) = some x6 := hfs 6 _ rfl
  rw [cells23] at f2
  replace f2 : DataW.trod enc Tryz.prog w 0 sp held m' 42 [v 2] = some x6 := f2
  have h2 := deps_bulk S m' (v 2) x6 f2 _ _ (hv.deps 2)
  have f3 : DataW.trod enc Tryz.prog w 0 sp held m' 42 ((([.string p.name, .string p.evr, .string p.arch, .string p.vendor, v 0, v 1, v 2, v 3, v 4, v 5, v 6, vf] : List Value).drop 7).take (Tryz.prog.cellsOf 42)) = some x7 := hfs 7 _ rfl
  rw [cells23] at f3
  replace f3 : DataW.trod enc Tryz.prog w 0 sp held m' 42 [v 3] = some x7 := f3
  have h3 := deps_bulk S m' (v 3) x7 f3 _ _ (hv.deps 3)
  have f4 : DataW.trod enc Tryz.prog w 0 sp held m' 42 ((([.string p.name, .string p.evr, .string p.arch, .string p.vendor, v 0, v 1, v 2, v 3, v 4, v 5, v 6, vf] : List Value).drop 8).take (Tryz.prog.cellsOf 42)) = some x8 := hfs 8 _ rfl
  rw [cells23] at f4
  replace f4 : DataW.trod enc Tryz.prog w 0 sp held m' 42 [v 4] = some x8 := f4
  have h4 := deps_bulk S m' (v 4) x8 f4 _ _ (hv.deps 4)
  have f5 : DataW.trod enc Tryz.prog w 0 sp held m' 42 ((([.string p.name, .string p.evr, .string p.arch, .string p.vendor, v 0, v 1, v 2, v 3, v 4, v 5, v 6, vf] : List Value).drop 9).take (Tryz.prog.cellsOf 42)) = some x9 := hfs 9 _ rfl
  rw [cells23] at f5
  replace f5 : DataW.trod enc Tryz.prog w 0 sp held m' 42 [v 5] = some x9 := f5
  have h5 := deps_bulk S m' (v 5) x9 f5 _ _ (hv.deps 5)
  have f6 : DataW.trod enc Tryz.prog w 0 sp held m' 42 ((([.string p.name, .string p.evr, .string p.arch, .string p.vendor, v 0, v 1, v 2, v 3, v 4, v 5, v 6, vf] : List Value).drop 10).take (Tryz.prog.cellsOf 42)) = some x10 := hfs 10 _ rfl
  rw [cells23] at f6
  replace f6 : DataW.trod enc Tryz.prog w 0 sp held m' 42 [v 6] = some x10 := f6
  have h6 := deps_bulk S m' (v 6) x10 f6 _ _ (hv.deps 6)
  have f7 : DataW.trod enc Tryz.prog w 0 sp held m' 43 ((([.string p.name, .string p.evr, .string p.arch, .string p.vendor, v 0, v 1, v 2, v 3, v 4, v 5, v 6, vf] : List Value).drop 11).take (Tryz.prog.cellsOf 43)) = some x11 := hfs 11 _ rfl
  rw [cells24] at f7
  replace f7 : DataW.trod enc Tryz.prog w 0 sp held m' 43 [vf] = some x11 := f7
  have h7 := strs_bulk f7 hv.files
  have b0 := bulk_one x0.1
  have b1 := bulk_one x1.1
  have b2 := bulk_one x2.1
  have b3 := bulk_one x3.1
  rw [hx']
  have hd : ((List.finRange 7).flatMap (fun j => tokDeps (p.n j) (p.deps j))).length = (tokDeps (p.n 0) (p.deps 0)).length + (tokDeps (p.n 1) (p.deps 1)).length + (tokDeps (p.n 2) (p.deps 2)).length + (tokDeps (p.n 3) (p.deps 3)).length + (tokDeps (p.n 4) (p.deps 4)).length + (tokDeps (p.n 5) (p.deps 5)).length + (tokDeps (p.n 6) (p.deps 6)).length := by
    have : List.finRange 7 = [0, 1, 2, 3, 4, 5, 6] := by decide
    rw [this]
    simp only [List.flatMap_cons, List.flatMap_nil, List.length_append, List.length_nil]
    omega
  unfold tokPkg
  simp only [List.length_append, List.length_cons, List.length_nil, List.length_map, hd]
  simp only [List.map_cons, List.map_nil, Rows.uptoBulk, Rows.uptoBulkAll]
  omega
theorem pkgs_bulk {S : Nat → Prop} {fuel : Nat} {v : Value} {x : DataW H × List MemPlace} (h : DataW.trod enc Tryz.prog w 0 sp held fuel 38 [v] = some x) {l : List PkgT} (hv : PkgsV w S l v) : (l.flatMap tokPkg).length + 1 ≤ Rows.uptoBulk x.1 := by
  obtain ⟨a, c, rfl, _, hin⟩ := hv
  have hS := slice_bulk Tryz.underlying38 cells26 h (fun i => if hi : i < l.length then (tokPkg l[i]).length else 0) (fun i hi b hb m hm cs y hc hy => by
    simp only [dif_pos hi]
    obtain ⟨b2, off, e, _, hq⟩ := hin (by intro e; rw [e] at hi; exact absurd hi (Nat.not_lt_zero _))
    rw [hb] at e
    injection e with e
    subst e
    obtain ⟨v, vf, hp, hca⟩ := hq i hi
    have hcc := cells_same hc hca rfl
    subst hcc
    exact pkg_bulk hy hp)
  have hF := flat_upto_list tokPkg (fun i => if hi : i < l.length then (tokPkg l[i]).length else 0) l (fun i hi => by simp only [dif_pos hi]; exact Nat.le_refl _)
  omega
set_option maxRecDepth 100000 in
theorem repo_bulk {S : Nat → Prop} {fuel : Nat} {r : RepoT} {v : Value} {x : DataW H × List MemPlace} (h : DataW.trod enc Tryz.prog w 0 sp held fuel 40 [.string r.name, .int .i64 r.prio, .bool r.inst, v] = some x) (hv : PkgsV w S r.pkgs v) : (tokRepoT r).length ≤ Rows.uptoBulk x.1 ∧ (-9223372036854775808 ≤ r.prio ∧ r.prio ≤ 9223372036854775807) := by
  obtain ⟨xs, m', hm', hx', hcl, hxl, hfs⟩ := DataW.trod_struct Tryz.underlying40 h
  obtain ⟨x0, x1, x2, x3, rfl⟩ := four (hxl.trans rfl)
  have f1 : DataW.trod enc Tryz.prog w 0 sp held m' 3 ((([.string r.name, .int .i64 r.prio, .bool r.inst, v] : List Value).drop 1).take (Tryz.prog.cellsOf 3)) = some x1 := hfs 1 _ rfl
  rw [cells3] at f1
  replace f1 : DataW.trod enc Tryz.prog w 0 sp held m' 3 [.int .i64 r.prio] = some x1 := f1
  obtain ⟨k, e0, _, wk⟩ := DataW.trod_int Tryz.underlying3 f1
  simp only [List.cons.injEq, and_true] at e0
  injection e0 with _ e0
  have f3 : DataW.trod enc Tryz.prog w 0 sp held m' 38 ((([.string r.name, .int .i64 r.prio, .bool r.inst, v] : List Value).drop 3).take (Tryz.prog.cellsOf 38)) = some x3 := hfs 3 _ rfl
  rw [cells32] at f3
  replace f3 : DataW.trod enc Tryz.prog w 0 sp held m' 38 [v] = some x3 := f3
  have h3 := pkgs_bulk f3 hv
  have b0 := bulk_one x0.1
  have b1 := bulk_one x1.1
  have b2 := bulk_one x2.1
  refine ⟨?_, ?_⟩
  · rw [hx']
    unfold tokRepoT tokRepo
    simp only [List.length_cons]
    simp only [List.map_cons, List.map_nil, Rows.uptoBulk, Rows.uptoBulkAll]
    omega
  · rw [e0]
    simp [Lit.wf, IntKind.min, IntKind.max, IntKind.bits, IntKind.signed] at wk
    omega
theorem repos_bulk {S : Nat → Prop} {fuel : Nat} {v : Value} {x : DataW H × List MemPlace} (h : DataW.trod enc Tryz.prog w 0 sp held fuel 31 [v] = some x) {l : List RepoT} (hv : ReposV w S l v) : (l.flatMap tokRepoT).length + 1 ≤ Rows.uptoBulk x.1 ∧ ∀ r ∈ l, -9223372036854775808 ≤ r.prio ∧ r.prio ≤ 9223372036854775807 := by
  obtain ⟨a, c, rfl, _, hin⟩ := hv
  have hone : ∀ i (hi : i < l.length), ∀ b, a = some b → ∀ m cs y, w.cells? 0 (b.add (i * 4)) 4 = some cs → DataW.trod enc Tryz.prog w 0 sp held m 40 cs = some y → (tokRepoT l[i]).length ≤ Rows.uptoBulk y.1 ∧ (-9223372036854775808 ≤ l[i].prio ∧ l[i].prio ≤ 9223372036854775807) := fun i hi b hb m cs y hc hy => by
    obtain ⟨b2, off, e, _, hq⟩ := hin (by intro e; rw [e] at hi; exact absurd hi (Nat.not_lt_zero _))
    rw [hb] at e
    injection e with e
    subst e
    obtain ⟨ap, np, cp, hp, hca⟩ := hq i hi
    have hcc := cells_same hc hca rfl
    subst hcc
    exact repo_bulk hy hp
  refine ⟨?_, ?_⟩
  · have hS := slice_bulk Tryz.underlying31 cells34 h (fun i => if hi : i < l.length then (tokRepoT l[i]).length else 0) (fun i hi b hb m hm cs y hc hy => by
      simp only [dif_pos hi]
      exact (hone i hi b hb m cs y hc hy).1)
    have hF := flat_upto_list tokRepoT (fun i => if hi : i < l.length then (tokRepoT l[i]).length else 0) l (fun i hi => by simp only [dif_pos hi]; exact Nat.le_refl _)
    omega
  · intro r hr
    obtain ⟨i, hi, rfl⟩ := List.getElem_of_mem hr
    rcases DataW.trod_slice Tryz.underlying31 h with ⟨e, _⟩ | ⟨a', len, cap, elems, rest, m, hf, hcs, hx, _, hl, hm, hle, he, _, _⟩
    · simp only [List.cons.injEq, and_true] at e
      injection e with _ e2 _
      omega
    · simp only [List.cons.injEq, and_true] at hcs
      injection hcs with e1 e2 e3
      have h1 := he i (by omega)
      rw [cells34] at h1
      rw [List.getElem?_eq_getElem (by omega)] at h1
      cases hc : w.cells? 0 (a'.add (i * 4)) 4 with
      | none => rw [hc] at h1; cases h1
      | some cs =>
        rw [hc] at h1
        exact (hone i hi a' e1 m cs _ hc h1).2
end
theorem canL_of {l : List RepoT} (h : (l.flatMap tokRepoT).length + 1 ≤ 1048576) (hp : ∀ r ∈ l, -9223372036854775808 ≤ r.prio ∧ r.prio ≤ 9223372036854775807) : CanL (poolsOf l).rl := by
  have hs := poolsOf_sub l
  refine ⟨fun r hr => hp r (hs.subset hr), ?_⟩
  have h1 : ((poolsOf l).rl.flatMap tokRepoT).length ≤ (l.flatMap tokRepoT).length := by
    generalize (poolsOf l).rl = m at hs
    clear h hp
    induction hs with
    | slnil => exact Nat.le_refl _
    | cons a _ ih =>
      rw [List.flatMap_cons, List.length_append]
      omega
    | cons_cons a _ ih =>
      rw [List.flatMap_cons, List.flatMap_cons, List.length_append, List.length_append]
      omega
  omega
end Go.Proofs.YtbdankpkdhhlmaaGreat
