/-
  A dependency's form: the closure, the contract whole. Helper text; the conditions are those typed.
-/
import Derived.Test.YtgeimldijagkkaaFormB
import Derived.Test.YtgeimldijagkkaaShelf
namespace Go.Proofs.Ytgeimldijagkkaa
set_option linter.unusedVariables false
set_option linter.unusedSimpArgs false
open Go.RowKit Go.Maps

def plainK (k : Int) : Bool := k == 1 || k == 5 || k == 6

set_option maxHeartbeats 1000000 in
theorem close_c (k : Int) (nm : ByteArray) (op : Int) (ev : ByteArray) (v : Value) (b : Nat) (k' : Int) (nm' : ByteArray) (op' : Int) (ev' : ByteArray) (v' : Value) (W : World) (hB : Box5 W b k nm op ev v) (fa : Bool)
    (HF : Hid (∀ w, Below W.heap.size W w → Calls Try.prog 76 #[.agg #[.int .i64 k', .string nm', .int .i64 op', .string ev', v']] w fun e w' => e = .returned (.bool fa) ∧ Below w.heap.size w w')) (res : Bool) (hres : (!((decide (k < 5) || plainK k') && fa)) = res) :
    Calls Try.prog 87 #[.agg #[.int .i64 k', .string nm', .int .i64 op', .string ev', v'], .pointer (some ⟨b, 0, none⟩)] W fun e w' => e = .returned (.bool res) ∧ Below W.heap.size W w' := by
  obtain ⟨w1, e1⟩ : ∃ w1, W.alloc (.cells #[.int .i64 k', .string nm', .int .i64 op', .string ev', v'] 85) = w1 := ⟨_, rfl⟩
  have HB1 : Hid (Below W.heap.size W w1 ∧ Box5 w1 W.heap.size k' nm' op' ev' v' ∧ Box5 w1 b k nm op ev v) := by
    rw [← e1]
    exact ⟨below1 _ _, .of (alloc_at _ _), hB.below (below1 _ _)⟩
  clear hB
  have p0 := HB1.out.2.1.c0
  have p1 := HB1.out.2.1.c1
  have p2 := HB1.out.2.1.c2
  have p3 := HB1.out.2.1.c3
  have p4 := HB1.out.2.1.c4
  have q0 := HB1.out.2.2.c0
  have H : ((¬ 5 ≤ k ∧ ((k' == 1) = true ∨ (k' == 1) = false ∧ (k' == 5) = true ∨ (k' == 1) = false ∧ (k' == 5) = false ∧ (k' == 6) = true ∨ (k' == 1) = false ∧ (k' == 5) = false ∧ (k' == 6) = false) ∨
      5 ≤ k ∧ ((k' == 1) = true ∨ (k' == 1) = false ∧ (k' == 5) = true ∨ (k' == 1) = false ∧ (k' == 5) = false ∧ (k' == 6) = true)) ∧ Hid ((!fa) = res)) ∨ (5 ≤ k ∧ (k' == 1) = false ∧ (k' == 5) = false ∧ (k' == 6) = false ∧ Hid (true = res)) := by
    unfold plainK at hres
    unfold Hid
    by_cases h5 : k < 5
    · have h5' : ¬ 5 ≤ k := by omega
      cases h1 : (k' == 1) <;> cases h2 : (k' == 5) <;> cases h3 : (k' == 6) <;> simp [h5, h5', h1, h2, h3] at hres ⊢ <;> exact hres
    · have h5' : 5 ≤ k := by omega
      cases h1 : (k' == 1) <;> cases h2 : (k' == 5) <;> cases h3 : (k' == 6) <;> simp [h5, h5', h1, h2, h3] at hres ⊢ <;> exact hres
  clear hres
  go_enter Try.func87, Try.ntmps87
  rcases H with ⟨⟨h5, h | ⟨h1, h⟩ | ⟨h1, h2, h⟩ | ⟨h1, h2, h⟩⟩ | ⟨h5, h | ⟨h1, h⟩ | ⟨h1, h2, h⟩⟩, HR⟩ | ⟨h5, h1, h2, h, HR⟩
  case inr =>
    go_wp2_with fail
    go_ret
    exact ⟨by rw [← HR.out]; rfl, HB1.out.1⟩
  all_goals
    go_wp2_with fail
    refine (HF.out w1 HB1.out.1).mono ?_
    rintro e w2 ⟨rfl, hb2⟩
    go_wp2_with fail
    go_ret
    exact ⟨by rw [← HR.out]; rfl, below_tr HB1.out.1 hb2⟩

theorem DepC.below {w w' : World} {S : Nat → Prop} {d : DepT} {cs : List Value} (h : DepC w S d cs) (hb : Below w.heap.size w w') : DepC w' S d cs :=
  h.keep (fun _ h => h) (fun b _ hl => hb.block b hl) (fun _ _ => trivial)
theorem DepsV.below {w w' : World} {S : Nat → Prop} {n : Nat} {args : Fin n → DepT} {v : Value} (h : DepsV w S n args v) (hb : Below w.heap.size w w') : DepsV w' S n args v :=
  h.keep (fun _ h => h) (fun b _ hl => hb.block b hl)
theorem CellsAt.lt {w : World} {b o : Nat} {c : Value} {cs : List Value} (h : CellsAt w b o (c :: cs)) : b < w.heap.size := World.block_lt_of_cell? w _ (h 0 c rfl)

theorem wrong_form {k : Int} {nm : ByteArray} {op : Int} {ev : ByteArray} {n : Nat} {args : Fin n → DepT} (hk : k ≠ 1) :
    (Wrong k nm op ev n ∧ formB (.mk k nm op ev n args) = false) ∨
    (¬ k < 2 ∧ ¬ 6 < k ∧ nm.toList.isEmpty = true ∧ (op != 0) = false ∧ ev.toList.isEmpty = true ∧ ¬ (n : Int) < 2 ∧ (¬ 0 < mostOf k ∨ (0 < mostOf k ∧ ¬ mostOf k < (n : Int))) ∧
      formB (.mk k nm op ev n args) = (List.finRange n).all fun i => (decide (k < 5) || plainK (args i).kind) && formB (args i)) := by
  have e1 : ∀ s : ByteArray, s.size ≠ 0 → s.toList.isEmpty = false := fun s h => bs_nonempty (Nat.pos_of_ne_zero h)
  have e2 : ∀ s : ByteArray, s.size = 0 → s.toList.isEmpty = true := fun s h => by rw [bs_toList, bs_nil.2 h]; rfl
  have hf : formB (.mk k nm op ev n args) = if k < 2 ∨ 6 < k ∨ nm.size ≠ 0 ∨ op ≠ 0 ∨ ev.size ≠ 0 ∨ n < 2 ∨ (k = 4 ∧ 3 < n) ∨ (k = 6 ∧ 2 < n) then false
      else (List.finRange n).all fun i => (decide (k < 5) || decide ((args i).kind = 1) || decide ((args i).kind = 5) || decide ((args i).kind = 6)) && formB (args i) := by
    conv => lhs; unfold formB
    rw [if_neg hk]
  rw [hf]
  unfold Wrong
  by_cases c1 : k < 2
  · exact .inl ⟨.inl c1, by rw [if_pos (.inl c1)]⟩
  by_cases c2 : 6 < k
  · exact .inl ⟨.inr (.inl ⟨c1, c2⟩), by rw [if_pos (.inr (.inl c2))]⟩
  by_cases c3 : nm.size ≠ 0
  · exact .inl ⟨.inr (.inr (.inl ⟨c1, c2, e1 _ c3⟩)), by rw [if_pos (.inr (.inr (.inl c3)))]⟩
  have c3' := e2 nm (by omega)
  by_cases c4 : op ≠ 0
  · exact .inl ⟨.inr (.inr (.inr (.inl ⟨c1, c2, c3', by simpa using c4⟩))), by rw [if_pos (.inr (.inr (.inr (.inl c4))))]⟩
  have c4' : (op != 0) = false := by simpa using c4
  by_cases c5 : ev.size ≠ 0
  · exact .inl ⟨.inr (.inr (.inr (.inr (.inl ⟨c1, c2, c3', c4', e1 _ c5⟩)))), by rw [if_pos (.inr (.inr (.inr (.inr (.inl c5)))))]⟩
  have c5' := e2 ev (by omega)
  by_cases c6 : n < 2
  · exact .inl ⟨.inr (.inr (.inr (.inr (.inr (.inl ⟨c1, c2, c3', c4', c5', by omega⟩))))), by rw [if_pos (.inr (.inr (.inr (.inr (.inr (.inl c6))))))]⟩
  have c6' : ¬ (n : Int) < 2 := by omega
  by_cases c7 : (k = 4 ∧ 3 < n) ∨ (k = 6 ∧ 2 < n)
  · refine .inl ⟨.inr (.inr (.inr (.inr (.inr (.inr ⟨c1, c2, c3', c4', c5', c6', ?_⟩))))), by rw [if_pos (.inr (.inr (.inr (.inr (.inr (.inr c7))))))]⟩
    unfold mostOf
    rcases c7 with ⟨rfl, h⟩ | ⟨rfl, h⟩
    · simp; omega
    · simp; omega
  · refine .inr ⟨c1, c2, c3', c4', c5', c6', ?_, ?_⟩
    · unfold mostOf
      by_cases h4 : k = 4
      · subst h4
        simp
        omega
      · by_cases h6 : k = 6
        · subst h6
          simp
          omega
        · simp [h4, h6]
    · rw [if_neg (by
        rintro (h | h | h | h | h | h | h)
        · exact c1 h
        · exact c2 h
        · exact c3 h
        · exact c4 h
        · exact c5 h
        · exact c6 h
        · exact c7 h)]
      congr 1
      funext i
      unfold plainK
      congr 1
      rw [Bool.eq_iff_iff]
      simp [or_assoc]

theorem name_form {nm : ByteArray} {op : Int} {ev : ByteArray} {n : Nat} {args : Fin n → DepT} {B : Bool} (hB : nameB nm = B) {q : Int} (hq : errOf (parse (bs ev)) = q) {res : Bool} (hr : formB (.mk 1 nm op ev n args) = res) :
    (B = false ∧ res = false) ∨ (B = true ∧ ((n : Int) == 0) = false ∧ res = false) ∨ (B = true ∧ ((n : Int) == 0) = true ∧ (op == 0) = true ∧ ev.toList.isEmpty = true ∧ res = true) ∨
      (B = true ∧ ((n : Int) == 0) = true ∧ (op == 0) = true ∧ ev.toList.isEmpty = false ∧ op < 1 ∧ res = false) ∨
      (B = true ∧ ((n : Int) == 0) = true ∧ (op == 0) = false ∧ op < 1 ∧ res = false) ∨ (B = true ∧ ((n : Int) == 0) = true ∧ (op == 0) = false ∧ ¬ op < 1 ∧ 7 < op ∧ res = false) ∨
      (B = true ∧ ((n : Int) == 0) = true ∧ (op == 0) = false ∧ ¬ op < 1 ∧ ¬ 7 < op ∧ (q == 0) = res) := by
  have e1 : ∀ s : ByteArray, s.size ≠ 0 → s.toList.isEmpty = false := fun s h => bs_nonempty (Nat.pos_of_ne_zero h)
  have e2 : ∀ s : ByteArray, s.size = 0 → s.toList.isEmpty = true := fun s h => by rw [bs_toList, bs_nil.2 h]; rfl
  have hf : formB (.mk 1 nm op ev n args) = (nameB nm && decide (n = 0) && ((decide (op = 0) && decide (ev.size = 0)) || (decide (1 ≤ op) && decide (op ≤ 7) && (parse (bs ev)).isSome))) := by
    conv => lhs; unfold formB
    rw [if_pos rfl]
  rw [hf, hB] at hr
  cases B with
  | false => left; exact ⟨rfl, by rw [← hr]; rfl⟩
  | true =>
    right
    by_cases hn : n = 0
    · have hn' : ((n : Int) == 0) = true := by rw [hn]; rfl
      right
      by_cases ho : op = 0
      · have ho' : (op == 0) = true := by rw [ho]; rfl
        by_cases hv : ev.size = 0
        · left
          exact ⟨rfl, hn', ho', e2 _ hv, by rw [← hr]; simp [hn, ho, hv]⟩
        · right; left
          exact ⟨rfl, hn', ho', e1 _ hv, by omega, by rw [← hr]; simp [hn, ho, hv]⟩
      · have ho' : (op == 0) = false := by simpa using ho
        right; right
        by_cases h1 : op < 1
        · left
          exact ⟨rfl, hn', ho', h1, by rw [← hr]; simp [hn, ho]; intros; omega⟩
        · right
          by_cases h7 : 7 < op
          · left
            exact ⟨rfl, hn', ho', h1, h7, by rw [← hr]; simp [hn, ho]; intros; omega⟩
          · right
            refine ⟨rfl, hn', ho', h1, h7, ?_⟩
            rw [← hr, ← hq]
            have a1 : 1 ≤ op := by omega
            have a2 : op ≤ 7 := by omega
            simp only [hn, ho, a1, a2, decide_true, decide_false, Bool.true_and, Bool.false_and, Bool.false_or]
            cases parse (bs ev) <;> rfl
    · left
      exact ⟨rfl, by simpa using hn, by rw [← hr]; simp [hn]⟩

theorem any_form {n : Nat} (f : Fin n → Bool) : (!(((List.finRange n).take n).any fun i => !f i)) = (List.finRange n).all f := by
  have : (List.finRange n).take n = List.finRange n := List.take_of_length_le (by simp)
  rw [this, List.not_any_eq_all_not]
  simp

theorem enters87 : ∀ args w, (callFunc 87 args).run Try.prog w = .ok (.enter 87 args) w := fun args w => by kernel_rfl

theorem cell_tr {W W' : World} (h : Below W.heap.size W W') {b o : Nat} {v : Value} (hc : W.cell? ⟨b, o, none⟩ = some v) : W'.cell? ⟨b, o, none⟩ = some v :=
  (h.cell (p := ⟨b, o, none⟩) (World.block_lt_of_cell? W _ hc)).trans hc

set_option maxRecDepth 100000 in
/-- dep.form. -/
theorem form_c : ∀ (d : DepT) (cs : List Value) (S : Nat → Prop) (w : World), DepC w S d cs → Calls Try.prog 76 #[.agg cs.toArray] w fun e w' => e = .returned (.bool (formB d)) ∧ Below w.heap.size w w' := by
  intro d
  induction d with
  | mk k nm op ev n args ih =>
    intro cs S w h
    obtain ⟨a, c, rfl, hw, hnm, hev, hn, hin⟩ := h
    by_cases hk : k = 1
    · subst hk
      exact form_name nm op ev hev a n c w _ rfl _ rfl _ (name_form rfl rfl rfl)
    · have hk' : (k == 1) = false := by simpa using hk
      rcases wrong_form (nm := nm) (op := op) (ev := ev) (args := args) hk with ⟨h1, h2⟩ | ⟨g1, g2, g3, g4, g5, g6, g7, h2⟩
      · rw [h2]
        exact form_bad k nm op ev a n c w hk' hw h1
      · rw [h2, ← any_form]
        refine form_good k nm op ev a n c w hk' hw g1 g2 g3 g4 g5 g6 g7 _ (Lib.hid ?_)
        intro W b hbW hbox
        have hn0 : n ≠ 0 := by omega
        obtain ⟨b', off, rfl, hs, hi⟩ := hin hn0
        let _ : Inhabited (Fin n) := ⟨⟨0, Nat.pos_of_ne_zero hn0⟩⟩
        have hch : ∀ i : Fin n, DepC w S (args i) (Classical.choose (hi i)) ∧ CellsAt w b' (off + i * 5) (Classical.choose (hi i)) := fun i => Classical.choose_spec (hi i)
        obtain ⟨enc, henc⟩ : ∃ enc : Fin n → List Value, ∀ i, DepC w S (args i) (enc i) ∧ CellsAt w b' (off + i * 5) (enc i) := ⟨_, hch⟩
        clear hch hi hin
        have hlen : ∀ i, (enc i).length = 5 := fun i => (henc i).1.len
        have hbW' : b' < W.heap.size := by
          obtain ⟨h1, h2⟩ := henc ⟨0, Nat.pos_of_ne_zero hn0⟩
          have hl := h1.len
          have hlt : b' < w.heap.size := by
            cases hc : enc ⟨0, Nat.pos_of_ne_zero hn0⟩ with
            | nil => rw [hc] at hl; cases hl
            | cons x l => rw [hc] at h2; exact h2.lt
          exact Nat.lt_of_lt_of_le hlt hbW.size
        have hp : PredBelow Try.prog 87 #[.pointer (some ⟨b, 0, none⟩)] (fun i => .agg (enc i).toArray) (fun i => !((decide (k < 5) || plainK (args i).kind) && formB (args i))) W := by
          intro W2 i hb2
          have hd : DepC W2 S (args i) (enc i) := ((henc i).1.below hbW).below hb2
          have hih := ih i
          show Calls Try.prog 87 #[.agg (enc i).toArray, .pointer (some ⟨b, 0, none⟩)] W2 fun e w' => e = .returned (.bool (!((decide (k < 5) || plainK (args i).kind) && formB (args i)))) ∧ Below W.heap.size W w'
          generalize args i = d at hd hih ⊢
          generalize enc i = cs at hd ⊢
          cases d with
          | mk k' nm' op' ev' n' args' =>
            have hd' := hd
            obtain ⟨a', c', rfl, _⟩ := hd'
            show Calls Try.prog 87 #[.agg #[.int .i64 k', .string nm', .int .i64 op', .string ev', .slice a' n' c'], .pointer (some ⟨b, 0, none⟩)] W2 fun e w' => e = .returned (.bool (!((decide (k < 5) || plainK k') && formB (.mk k' nm' op' ev' n' args')))) ∧ Below W.heap.size W w'
            refine (close_c k nm op ev _ b k' nm' op' ev' _ W2 (hbox.below hb2) (formB (.mk k' nm' op' ev' n' args')) (Lib.hid ?_) _ rfl).mono fun e w' ⟨h1, h2⟩ => ⟨h1, hb2.trans (below_to h2 hb2.size)⟩
            intro w3 hb3
            exact hih _ S w3 (hd.below hb3)
        have hc : ∀ j, j < (List.finRange n).length → ∀ i v, (enc (List.finRange n)[j]!)[i]? = some v → W.cell? ⟨b', off + j * 5 + i, none⟩ = some v := by
          intro j hj i v hv
          have hjn : j < n := by simpa using hj
          have e : (List.finRange n)[j]! = ⟨j, hjn⟩ := by
            have : (List.finRange n)[j]? = some ⟨j, hjn⟩ := by simp [List.getElem?_eq_getElem hj]
            exact List.getElem!_of_getElem? this
          rw [e] at hv
          exact cell_tr hbW ((henc ⟨j, hjn⟩).2 i v hv)
        exact AnyQ.slices_ContainsFunc Try.layAnyD 5 Try.isAgg85 Try.sizeOf85 enc hlen _ 87 #[.pointer (some ⟨b, 0, none⟩)] enters87 b' off n c (List.finRange n) W hp (by simp) (by omega) hbW' hc
end Go.Proofs.Ytgeimldijagkkaa
