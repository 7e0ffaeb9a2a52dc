/-
  A region that draws its order and ends in two stores that may change places (append in place): walked in one order up to them, then both ways. Helper text. Conditions: two Bools over the region, for the kernel.
  The document's reader: a value is taken. Helper text (printed by gen_rrdC.py); the conditions are those typed.
  The document's reader: a dependency of a list is taken. Helper text (printed by gen_rrdC.py); the conditions are those typed.
-/
import Derived.Test.YtjcefgjgjhdbpaaGreatDoorOrd
import Derived.Test.YtjcefgjgjhdbpaaGreatDoorRRdB
import Derived.Test.YtjcefgjgjhdbpaaGreatDoorRfE
import Derived.Test.YtjcefgjgjhdbpaaGreatDoorTrimW
namespace Go.Proofs.YtjcefgjgjhdbpaaGreatDoor
set_option linter.unusedVariables false
set_option linter.unusedSimpArgs false
open Go.RowKit
section
variable {P : Program} {ops : Array Oper} {Q : Exit → Act → World → Prop} {md : Region.Mode} {S : World → Prop} {c : Nat}

/-- As wpOrd; behind number c, the last, R holds. -/
def wpOrdR (P : Program) (ops : Array Oper) (Q : Exit → Act → World → Prop) (S : World → Prop) (c : Nat) (R : Act → World → Prop) : List (Bool × Oper) → List Nat → Act → World → Prop
  | (true, o) :: rest, _ :: is, a, w => if Region.wanted o (yielded ops a.tmps) then ∃ v, (∀ w', S w' → (execOp a.eval o).run P w' = .ok (.value v) w') ∧ wpOrdR P ops Q S c R rest is (a.put o.dst v) w else wpOrdR P ops Q S c R rest is (a.put o.dst undef) w
  | (false, o) :: rest, i :: is, a, w => if Region.wanted o (yielded ops a.tmps) then o.wp P a w (fun a' w' => (i ≠ c → S w') ∧ wpOrdR P ops Q S c R rest is a' w') Q ∨ (o.asks P a w ∧ LetsOut Q) else (i ≠ c → S w) ∧ wpOrdR P ops Q S c R rest is (a.put o.dst undef) w
  | _, _, a, w => R a w
def ordBR (md : Region.Mode) (ops : Array Oper) (c : Nat) : List (Bool × Nat) → Array Bool → Bool
  | [], _ => false
  | (true, i) :: rest, listed => (Region.ready md ops listed).contains i && Region.free md ops listed i && decide (i ≠ c) &&
      (match ops[c]? with | some oc => oc.after.any (fun e => Region.binds md e && e.on == i) | none => true) && (match ops[i]? with | some _ => true | none => false) && ordBR md ops c rest (listed.setIfInBounds i true)
  | (false, i) :: rest, listed => decide (Region.ready md ops listed = [i]) && (match ops[i]? with | some _ => true | none => false) && (if i = c then rest.isEmpty else ordBR md ops c rest (listed.setIfInBounds i true))
def ordEnd : List Nat → Array Bool → Array Bool
  | [], listed => listed
  | i :: l, listed => ordEnd l (listed.setIfInBounds i true)
theorem wpAnyC_of_ordR {n : Nat} {R : Act → World → Prop} (hQ : ∀ c a d v w, Q (.panic c) (Act.put a d v) w → Q (.panic c) a w) (hsel : Region.noSelect ops = true) : ∀ (l : List (Bool × Nat)) (listed : Array Bool) (a : Act) (w : World),
    ordBR md ops c l listed = true → S w → (∀ a w, R a w → wpAny P md ops Q n (ordEnd (l.map (·.2)) listed) a w) → wpOrdR P ops Q S c R (ordOps ops l) (l.map (·.2)) a w → wpAnyC P md ops Q S c (l.length + n) listed a w
  | [], listed, a, w, hB, _, _, _ => by cases hB
  | (true, i) :: rest, listed, a, w, hB, hS, hR, h => by
    simp only [ordBR, Bool.and_eq_true, decide_eq_true_eq] at hB
    obtain ⟨⟨⟨⟨⟨hr, hf⟩, hic⟩, hc⟩, hoi⟩, hB'⟩ := hB
    have e : ((true, i) :: rest).length + n = (rest.length + n) + 1 := by simp only [List.length_cons]; omega
    rw [e]
    cases ho : ops[i]? with
    | none => rw [ho] at hoi; cases hoi
    | some oi =>
      have hg : ops.getD i default = oi := by simp [Array.getD_eq_getD_getElem?, ho]
      simp only [ordOps, List.map_cons, hg, wpOrdR] at h
      have hcc : ∀ oc, ops[c]? = some oc → ∃ e ∈ oc.after, Region.binds md e = true ∧ e.on = i := by
        intro oc hoc
        rw [hoc] at hc
        obtain ⟨e, he, hb⟩ := Array.any_eq_true'.1 hc
        simp only [Bool.and_eq_true, beq_iff_eq] at hb
        exact ⟨e, he, hb.1, hb.2⟩
      by_cases hw : Region.wanted oi (yielded ops a.tmps) = true
      · rw [if_pos hw] at h
        obtain ⟨v, hv, hk⟩ := h
        exact wpAnyC_first ho (Region.noSelect_spec hsel) (fun c a w => hQ c a _ v w) hic hcc (rest.length + n) listed a w (Region.free_spec ho hf) (by simpa using hr) (.inl ⟨hw, hv⟩) hS (wpAnyC_of_ordR hQ hsel rest _ _ w hB' hS hR hk)
      · rw [if_neg hw] at h
        exact wpAnyC_first ho (Region.noSelect_spec hsel) (fun c a w => hQ c a _ undef w) hic hcc (rest.length + n) listed a w (Region.free_spec ho hf) (by simpa using hr) (.inr ⟨by simpa using hw, rfl⟩) hS (wpAnyC_of_ordR hQ hsel rest _ _ w hB' hS hR h)
  | (false, i) :: rest, listed, a, w, hB, hS, hR, h => by
    simp only [ordBR, Bool.and_eq_true, decide_eq_true_eq] at hB
    obtain ⟨⟨hr, hoi⟩, hlast⟩ := hB
    have e : ((false, i) :: rest).length + n = (rest.length + n) + 1 := by simp only [List.length_cons]; omega
    rw [e]
    cases ho : ops[i]? with
    | none => rw [ho] at hoi; cases hoi
    | some oi =>
      have hg : ops.getD i default = oi := by simp [Array.getD_eq_getD_getElem?, ho]
      simp only [ordOps, List.map_cons, hg, wpOrdR] at h
      refine ⟨fun h0 => (by rw [h0] at hr; cases hr), fun j hj => ?_⟩
      rw [hr] at hj
      have hji : j = i := by simpa using hj
      subst hji
      have step : ∀ a' w', ((j ≠ c → S w') ∧ wpOrdR P ops Q S c R (ordOps ops rest) (rest.map (·.2)) a' w') →
          (j = c → wpAny P md ops Q (rest.length + n) (listed.setIfInBounds j true) a' w') ∧ (j ≠ c → S w' ∧ wpAnyC P md ops Q S c (rest.length + n) (listed.setIfInBounds j true) a' w') := by
        intro a' w' ⟨h1, h2⟩
        refine ⟨fun e => ?_, fun e => ⟨h1 e, wpAnyC_of_ordR hQ hsel rest _ a' w' (by rw [if_neg e] at hlast; exact hlast) (h1 e) hR h2⟩⟩
        have : rest = [] := by rw [if_pos e] at hlast; simpa using hlast
        subst this
        have h3 := hR a' w' h2
        simpa [ordEnd] using h3
      unfold wpOp
      simp only [ho]
      by_cases hw : Region.wanted oi (yielded ops a.tmps) = true
      · rw [if_pos hw] at h ⊢
        exact h.imp (fun h => Oper.wp_mono (fun a' w' hk => step a' w' hk) h) id
      · rw [if_neg hw] at h ⊢
        exact step _ _ h

/-- Operations that read nothing, then two that may change places. -/
def wpOrdF (P : Program) (ops : Array Oper) (Q : Exit → Act → World → Prop) (oi oj : Oper) : List Oper → Act → World → Prop
  | o :: rest, a, w => ∃ v, (∀ w', (execOp a.eval o).run P w' = .ok (.value v) w') ∧ wpOrdF P ops Q oi oj rest (a.put o.dst v) w
  | [], a, w => oi.wp P a w (fun a' w' => oj.wp P a' w' (Q .normal) Q) Q ∧ oj.wp P a w (fun a' w' => oi.wp P a' w' (Q .normal) Q) Q
def ordBF (md : Region.Mode) (ops : Array Oper) (i j : Nat) : List Nat → Array Bool → Bool
  | [], listed => decide (Region.ready md ops listed = [i, j]) && decide (Region.ready md ops (listed.setIfInBounds i true) = [j]) && decide (Region.ready md ops (listed.setIfInBounds j true) = [i]) && decide (Region.ready md ops ((listed.setIfInBounds i true).setIfInBounds j true) = []) && decide (Region.ready md ops ((listed.setIfInBounds j true).setIfInBounds i true) = []) &&
      (match ops[i]? with | some o => o.guard.isNone | none => false) && (match ops[j]? with | some o => o.guard.isNone | none => false)
  | k :: rest, listed => (Region.ready md ops listed).contains k && Region.free md ops listed k && (match ops[k]? with | some o => o.guard.isNone | none => false) && decide (k < ops.size) && ordBF md ops i j rest (listed.setIfInBounds k true)
theorem wpOp_of {i : Nat} {o : Oper} {K : Act → World → Prop} {a : Act} {w : World} (ho : ops[i]? = some o) (hg : o.guard.isNone = true) (h : o.wp P a w K Q) : wpOp P ops Q i K a w := by
  unfold wpOp
  simp only [ho]
  have hg : o.guard = none := by simpa using hg
  rw [if_pos (by simp [Region.wanted, hg])]
  exact .inl h
theorem wpAnyC_of_ordF {i j : Nat} {oi oj : Oper} (hi : ops[i]? = some oi) (hj : ops[j]? = some oj) (hQ : ∀ c a d v w, Q (.panic c) (Act.put a d v) w → Q (.panic c) a w) (hsel : Region.noSelect ops = true) : ∀ (l : List Nat) (listed : Array Bool) (a : Act) (w : World),
    ordBF md ops i j l listed = true → wpOrdF P ops Q oi oj (l.map fun k => ops.getD k default) a w → wpAnyC P md ops Q (fun _ => True) ops.size (l.length + 2) listed a w
  | [], listed, a, w, hB, h => by
    simp only [ordBF, Bool.and_eq_true, decide_eq_true_eq, hi, hj] at hB
    obtain ⟨⟨⟨⟨⟨⟨h1, h2⟩, h3⟩, h4⟩, h5⟩, hgi⟩, hgj⟩ := hB
    have hli : i < ops.size := (Array.getElem?_eq_some_iff.1 hi).1
    have hlj : j < ops.size := (Array.getElem?_eq_some_iff.1 hj).1
    obtain ⟨k1, k2⟩ := h
    have hend : ∀ (ls : Array Bool), Region.ready md ops ls = [] → ∀ a w, Q .normal a w → wpAnyC P md ops Q (fun _ => True) ops.size 0 ls a w := fun ls h0 a w hq => ⟨h0, hq⟩
    refine ⟨fun h0 => (by rw [h0] at h1; cases h1), fun k hk => ?_⟩
    rw [h1] at hk
    have hk2 : k = i ∨ k = j := by simpa using hk
    rcases hk2 with rfl | rfl
    · refine wpOp_of hi hgi (Oper.wp_mono (fun a' w' h6 => ⟨fun e => absurd e (by omega), fun _ => ⟨trivial, fun h0 => (by rw [h0] at h2; cases h2), fun m hm => ?_⟩⟩) k1)
      rw [h2] at hm
      have hm2 : m = j := by simpa using hm
      subst hm2
      exact wpOp_of hj hgj (Oper.wp_mono (fun a' w' h7 => ⟨fun e => absurd e (by omega), fun _ => ⟨trivial, hend _ h4 a' w' h7⟩⟩) h6)
    · refine wpOp_of hj hgj (Oper.wp_mono (fun a' w' h6 => ⟨fun e => absurd e (by omega), fun _ => ⟨trivial, fun h0 => (by rw [h0] at h3; cases h3), fun m hm => ?_⟩⟩) k2)
      rw [h3] at hm
      have hm2 : m = i := by simpa using hm
      subst hm2
      exact wpOp_of hi hgi (Oper.wp_mono (fun a' w' h7 => ⟨fun e => absurd e (by omega), fun _ => ⟨trivial, hend _ h5 a' w' h7⟩⟩) h6)
  | k :: rest, listed, a, w, hB, h => by
    simp only [ordBF, Bool.and_eq_true, decide_eq_true_eq] at hB
    obtain ⟨⟨⟨⟨hr, hf⟩, hgk⟩, hlt⟩, hB'⟩ := hB
    have e : (k :: rest).length + 2 = (rest.length + 2) + 1 := by rw [List.length_cons]
    rw [e]
    cases ho : ops[k]? with
    | none => rw [ho] at hgk; cases hgk
    | some ok =>
      have hg : ops.getD k default = ok := by simp [Array.getD_eq_getD_getElem?, ho]
      rw [ho] at hgk
      have hgn : ok.guard = none := by simpa using hgk
      simp only [List.map_cons, hg, wpOrdF] at h
      obtain ⟨v, hv, hk⟩ := h
      have hcc : ∀ oc, ops[ops.size]? = some oc → ∃ e ∈ oc.after, Region.binds md e = true ∧ e.on = k := fun oc hoc => by
        have := (Array.getElem?_eq_some_iff.1 hoc).1
        omega
      exact wpAnyC_first ho (Region.noSelect_spec hsel) (fun c a w => hQ c a _ v w) (by omega) hcc (rest.length + 2) listed a w (Region.free_spec ho hf) (by simpa using hr) (.inl ⟨by simp [Region.wanted, hgn], fun w' _ => hv w'⟩) trivial (wpAnyC_of_ordF hi hj hQ hsel rest _ _ w hB' hk)
/-- THE RULE. -/
theorem wp_region_two {id : Nat} {a : Act} {w : World} {l : List Oper} (S : World → Prop) (c : Nat) (ord : List (Bool × Nat)) (ord2 : List Nat) (i j : Nat) (hm : P.follows .mixedOrders = true)
    (hB : (Region.noSelect l.toArray && decide (ord.length + (ord2.length + 2) = l.length) && ordBR .any l.toArray c ord (Array.replicate l.length false) && ordBF .any l.toArray i j ord2 (ordEnd (ord.map (·.2)) (Array.replicate l.length false))) = true)
    (hQ : ∀ c a d v w, Q (.panic c) (Act.put a d v) w → Q (.panic c) a w) (hS : S w.drew)
    (h : ∀ wd, Hid (wd = w.drew) → S wd → wpOrdR P l.toArray Q S c (wpOrdF P l.toArray Q (l.toArray.getD i default) (l.toArray.getD j default) (ord2.map fun k => l.toArray.getD k default)) (ordOps l.toArray ord) (ord.map (·.2)) a wd) : (Code.region id l.toArray true).wp P Q a w := by
  simp only [Bool.and_eq_true, decide_eq_true_eq] at hB
  obtain ⟨⟨⟨h1, h2⟩, h3⟩, h4⟩ := hB
  have hij : ∀ (ord2 : List Nat) (ls : Array Bool), ordBF .any l.toArray i j ord2 ls = true → (∃ o, l.toArray[i]? = some o) ∧ ∃ o, l.toArray[j]? = some o := by
    intro ord2
    induction ord2 with
    | nil =>
      intro ls h
      simp only [ordBF, Bool.and_eq_true] at h
      obtain ⟨⟨_, hi⟩, hj⟩ := h
      constructor
      · cases ho : l.toArray[i]? with
        | none => rw [ho] at hi; cases hi
        | some o => exact ⟨o, rfl⟩
      · cases ho : l.toArray[j]? with
        | none => rw [ho] at hj; cases hj
        | some o => exact ⟨o, rfl⟩
    | cons k r ih =>
      intro ls h
      simp only [ordBF, Bool.and_eq_true] at h
      exact ih _ h.2
  obtain ⟨⟨oi, hi⟩, oj, hj⟩ := hij _ _ h4
  have hgi : l.toArray.getD i default = oi := by rw [Array.getD_eq_getD_getElem?, hi]; rfl
  have hgj : l.toArray.getD j default = oj := by rw [Array.getD_eq_getD_getElem?, hj]; rfl
  rw [hgi, hgj] at h
  refine wp_region_any hm (wpAny_of_C _ _ _ _ (S := S) (c := c) ?_)
  have := wpAnyC_of_ordR (P := P) (Q := Q) (S := S) (md := .any) (c := c) (n := ord2.length + 2) hQ h1 ord _ a w.drew h3 hS (fun a w hr => wpAny_of_C _ _ _ _ (wpAnyC_of_ordF hi hj hQ h1 ord2 _ a w h4 hr)) (h _ rfl hS)
  rw [h2] at this
  simpa using this

/-! ### the steps -/
theorem ordR_q {R : Act → World → Prop} {o : Oper} {rest : List (Bool × Oper)} {i : Nat} {is : List Nat} {a : Act} {w : World} (hg : o.guard = none) (v : Value) (h : ∀ w', S w' → ∀ K : Value → Prop, K v → givesAt P o a w' K)
    (hk : ∀ K : Act → Prop, (∀ a', wpOrdR P ops Q S c R rest is a' w → K a') → K (a.put o.dst v)) : wpOrdR P ops Q S c R ((true, o) :: rest) (i :: is) a w := by
  unfold wpOrdR
  rw [if_pos (by simp [Region.wanted, hg])]
  exact ⟨v, fun w' hs => givesAt_run (h w' hs), hk _ fun _ h => h⟩
theorem ordR_l {R : Act → World → Prop} {o : Oper} {rest : List (Bool × Oper)} {i : Nat} {is : List Nat} {a : Act} {w : World} (hg : o.guard = none)
    (h : ∀ K : Act → World → Prop, (∀ a' w', ((i ≠ c → S w') ∧ wpOrdR P ops Q S c R rest is a' w') → K a' w') → o.wp P a w K Q) : wpOrdR P ops Q S c R ((false, o) :: rest) (i :: is) a w := by
  unfold wpOrdR
  rw [if_pos (by simp [Region.wanted, hg])]
  exact .inl (h _ fun _ _ h => h)
theorem ordR_nil {R : Act → World → Prop} {is : List Nat} {a : Act} {w : World} (h : R a w) : wpOrdR P ops Q S c R [] is a w := by
  cases is <;> exact h
theorem ordF_q {oi oj : Oper} {o : Oper} {rest : List Oper} {a : Act} {w : World} (v : Value) (h : ∀ w', ∀ K : Value → Prop, K v → givesAt P o a w' K)
    (hk : ∀ K : Act → Prop, (∀ a', wpOrdF P ops Q oi oj rest a' w → K a') → K (a.put o.dst v)) : wpOrdF P ops Q oi oj (o :: rest) a w :=
  ⟨v, fun w' => givesAt_run (h w'), hk _ fun _ h => h⟩
theorem ordF_end {oi oj : Oper} {a : Act} {w : World} (h1 : ∀ K : Act → World → Prop, (∀ a' w', oj.wp P a' w' (Q .normal) Q → K a' w') → oi.wp P a w K Q) (h2 : ∀ K : Act → World → Prop, (∀ a' w', oi.wp P a' w' (Q .normal) Q → K a' w') → oj.wp P a w K Q) : wpOrdF P ops Q oi oj [] a w :=
  ⟨h1 _ fun _ _ h => h, h2 _ fun _ _ h => h⟩
end
end Go.Proofs.YtjcefgjgjhdbpaaGreatDoor
namespace Go.Proofs.YtjcefgjgjhdbpaaGreatDoor
set_option linter.unusedVariables false
set_option linter.unusedSimpArgs false
open Go.RowKit Go.Maps
variable {X : Obj}

set_option maxHeartbeats 1000000 in
theorem rput_vnd (L B M : Nat) (K : Nat → Prop) (out : List PkgT) (p : SP) (vo : Value) (v : Fin 7 → Value) (vf : Value) (x : ByteArray) (hx : x.size ≤ maxLen) (w : World) (h : RdR X w L B M K out p true vo v vf) :
    Calls Tryz.prog 57 #[.pointer (some ⟨B, 0, none⟩), .string ⟨#[86, 110, 100]⟩, .string x] w fun e w' => e = .returned (.int .i64 0) ∧ Below L w w' ∧ RdR X w' L B M K out { p with vendor := x } true vo v vf := by
  have c4 := h.box.cell (j := 4) rfl
  have f4 := h.box.frozen 4
  have HN : Hid (∀ w', w' = w.setCell ⟨B, 4, none⟩ (.string x) → Below L w w' ∧ RdR X w' L B M K out { p with vendor := x } true vo v vf) := Lib.hid <| by
    rintro w' rfl
    have hc := h.cur.setB h.outs.kB 4 (.string x)
    exact ⟨below_sc (Below.refl _ _) h.outs.lB _ _, h.box.set 4 _, h.outs.setB 4 _, ⟨hc.name, hc.evr, hc.arch, hx, hc.texts, hc.rows, hc.files, hc.apart, hc.away⟩⟩
  clear h
  go_enter Tryz.func57, Tryz.ntmps57
  go_wp2_with fail
  go_ret
  exact ⟨rfl, HN.out _ rfl⟩
set_option maxHeartbeats 4000000 in
set_option maxRecDepth 100000 in
theorem rput_fls (L B M : Nat) (K : Nat → Prop) (out : List PkgT) (p : SP) (vo : Value) (v : Fin 7 → Value) (vf : Value) (x : ByteArray) (hx : x.size ≤ maxLen) (hnf : p.files.length ≤ 1000000) (w : World) (h : RdR X w L B M K out p true vo v vf) :
    Calls Tryz.prog 57 #[.pointer (some ⟨B, 0, none⟩), .string ⟨#[70, 108, 115]⟩, .string x] w fun e w' => e = .returned (.int .i64 0) ∧ Below L w w' ∧ ∃ vf', RdR X w' L B M K out { p with files := p.files ++ [mkB (trimT (bs x))] } true vo v vf' := by
  have hrow := h.cur.files
  obtain ⟨va, vc, rfl⟩ := ownsRow_slice hrow
  have hBl := h.box.lt
  have hLw : L ≤ w.heap.size := Nat.le_trans h.outs.lB (Nat.le_of_lt hBl)
  have HC := Lib.hid (fun W => rtrim_c x hx W)
  have hy : (mkB (trimT (bs x))).size ≤ maxLen := by
    rw [size_mkB']
    have h1 := trimT_len (bs x)
    rw [bs_len] at h1
    omega
  generalize mkB (trimT (bs x)) = y at HC hy ⊢
  have HNX : Hid (∀ w6 w9 : World, ∀ g c : Nat, Below w.heap.size w w6 → w9.ownsRow L 9 1 (.slice (some ⟨g, 0, none⟩) (p.files.length + 1) c) (p.files.length + 1) (p.files.map .string ++ [.string y]) → w6.grownBy w9 (Value.slice va p.files.length vc).ownBlock → ((Value.slice va p.files.length vc).ownBlock = some g ∨ g = w6.heap.size) →
      w9.heap[B]? = w.heap[B]? ∧ Below L w (w9.setCell ⟨B, 12, none⟩ (.slice (some ⟨g, 0, none⟩) (p.files.length + 1) c)) ∧ RdR X (w9.setCell ⟨B, 12, none⟩ (.slice (some ⟨g, 0, none⟩) (p.files.length + 1) c)) L B M K out { p with files := p.files ++ [y] } true vo v (.slice (some ⟨g, 0, none⟩) (p.files.length + 1) c)) := Lib.hid fun w6 w9 g c hb hown hg hat => by
    obtain ⟨k1, k2, k3⟩ := grow_step ⟨h.outs.lB, hBl⟩ hb (fun b e => ⟨(hrow.lt b e).1, (h.cur.away none b e).1⟩) hg 12 (.slice (some ⟨g, 0, none⟩) (p.files.length + 1) c)
    have hgw : Grew w K (.slice va p.files.length vc) g := by
      rcases hat with h1 | h1
      · exact .inl h1
      · have := hb.size
        exact .inr ⟨by omega, fun hk => by have := (h.outs.fresh g hk).2.lt; omega⟩
    have hgB : g ≠ B := by
      rcases hgw with h1 | h1
      · exact (h.cur.away none g h1).1
      · omega
    have hcur := h.cur.addFileR (w' := w9.setCell ⟨B, 12, none⟩ (.slice (some ⟨g, 0, none⟩) (p.files.length + 1) c)) h.outs hBl y hy (ownsRow_to hown (fun b hb => set_other _ (by have h3 : g = b := Option.some.inj hb; omega))) hgw k1
    refine ⟨k3, k2, (h.box.to k3).set 12 _, h.outs.grow hBl (fun _ hb => hb) (fun b hb => .inl hb) (fun b hl hb' => k1 b hl (fun e => ?_) (fun e => ?_)), hcur⟩
    · subst e
      rcases hb' with e | e | e
      · exact h.outs.bm e
      · exact h.outs.kB e
      · exact h.outs.vB e
    · obtain ⟨_, a2, a3, a4⟩ := h.cur.away none b e
      rcases hb' with e | e | e
      · exact a2 e
      · exact a4 e
      · exact a3 e
  have HROW := Lib.hid hrow
  have HB := Lib.hid h.box
  have HSW : Hid (∀ W : World, W.heap[B]? = w.heap[B]? → W.cell? ⟨B, 12, none⟩ = some (.slice va p.files.length vc) ∧ W.frozen? ⟨B, 12, none⟩ = false) := Lib.hid fun W hW => ⟨(HB.out.to hW).cell (j := 12) rfl, (HB.out.to hW).frozen 12⟩
  obtain ⟨i0, hi9, hz90, hz91, hz92⟩ := info_parts info9q
  clear h hrow hy
  generalize p.files.length = n at *
  generalize p.files.map Value.string = xs at *
  go_enter Tryz.func57, Tryz.ntmps57
  go_upto_region 7 with fail
  refine wp_region_ord (fun W => W.heap[B]? = w.heap[B]?) 13 [(true, 0), (true, 1), (true, 2), (true, 3), (true, 4), (true, 5), (true, 6), (false, 7), (false, 8), (false, 9), (false, 10), (false, 11), (false, 12), (false, 13)] (by kernel_rfl) (by kernel_rfl) (fun _ _ d _ _ h => by cases d <;> exact h) rfl ?_
  intro wd hwd hS
  simp only [ordOps, List.map_cons, List.map_nil, Array.getD_eq_getD_getElem?, List.getElem?_toArray, List.getElem?_cons_succ, List.getElem?_cons_zero, Option.getD_some]
  iterate 7 (refine wpOrd_q rfl _ (fun w' hS' K hK => (by obtain ⟨x0, _⟩ := HSW.out w' hS'; clear hS'; go_simp; exact hK)) (fun K hK => ?_); go_simp; refine hK _ ?_; clear hK K)
  have HBd : Hid (Below w.heap.size w wd) := Lib.hid (by rw [hwd.out]; exact below_dr1 (Below.refl _ _))
  clear hS hwd
  refine wpOrd_l rfl (fun K hK => ?_)
  go_simp
  refine (HC.out wd).mono ?_
  rintro e w5 ⟨rfl, hw5⟩
  have hb5 : Below wd.heap.size wd w5 := by rw [hw5]; exact Below.refl _ _
  clear hw5
  have HB5 : Hid (Below w.heap.size w w5) := Lib.hid (below_tr HBd.out hb5)
  clear hb5
  go_simp
  refine hK _ _ ⟨fun _ => HB5.out.block B hBl, ?_⟩
  clear hK K
  obtain ⟨w6, e6⟩ : ∃ w6, w5.alloc (.cells #[.string y] 9) = w6 := ⟨_, rfl⟩
  have HB6 : Hid (Below w.heap.size w w6 ∧ BoxN w6 w5.heap.size [.string y] 9) := Lib.hid <| by
    rw [← e6]
    exact ⟨below_tr HB5.out (below1 _ _), boxN_alloc _ _ _⟩
  refine wpOrd_l rfl (fun K hK => ?_)
  go_simp
  refine hK _ _ ⟨fun _ => HB6.out.1.block B hBl, ?_⟩
  clear hK K e6
  refine wpOrd_l rfl (fun K hK => ?_)
  refine wp_append_lies _ (.tmp 24) (.tmp 27) 34 rfl L 9 i0 (.string ⟨#[]⟩) 1 16 Tryz.underlying34 hi9 hz90 hz91 hz92 rfl (by decide) (.slice va n vc) n xs rfl (ownsRow_below HROW.out HB6.out.1) ⟨w5.heap.size, 0, none⟩ 1 1 [.string y] rfl rfl (World.news_of_block (cs := #[.string y]) (t := 9) (fr := (0, 0)) HB6.out.2) (by intro u hu; simp only [List.mem_cons, List.not_mem_nil, or_false] at hu; rw [hu]; rfl) (by decide) (by unfold maxLen; omega) (by omega) (Nat.le_trans hLw HB6.out.1.size) _ rfl ?_
  intro g9 c9 w9 hown9 hgrow9 hat9 hlt9
  have H9 := Lib.hid (HNX.out w6 w9 g9 c9 HB6.out.1 hown9 hgrow9 hat9)
  clear hown9 hgrow9 hat9 hlt9 HNX
  refine hK _ _ ⟨fun _ => H9.out.1, ?_⟩
  clear hK K
  refine wpOrd_l rfl (fun K hK => ?_)
  go_simp
  refine hK _ _ ⟨fun _ => H9.out.1, ?_⟩
  clear hK K
  refine wpOrd_l rfl (fun K hK => ?_)
  go_simp
  refine hK _ _ ⟨fun _ => H9.out.1, ?_⟩
  clear hK K
  refine wpOrd_l rfl (fun K hK => ?_)
  go_simp
  refine hK _ _ ⟨fun _ => H9.out.1, ?_⟩
  clear hK K
  obtain ⟨y0, f0⟩ := HSW.out w9 H9.out.1
  refine wpOrd_l rfl (fun K hK => ?_)
  go_simp
  refine hK _ _ ⟨fun h => absurd rfl h, ?_⟩
  clear hK K y0 f0
  refine wpOrd_nil ?_
  go_wp2_with fail
  go_ret
  exact ⟨rfl, H9.out.2.1, _, H9.out.2.2⟩
/-- A list that has grown. -/
theorem rput_fin {w : World} {L B M : Nat} {K : Nat → Prop} {out : List PkgT} {p : SP} {vo : Value} {v : Fin 7 → Value} {vf : Value} (h : RdR X w L B M K out p true vo v vf) (i : Fin 7) {xs : List Value} (hrow : w.ownsRow L 73 5 (v i) (p.L i).length xs) (hhas : ∀ j (h : j < (p.L i).length), ∃ cs, DepC w K (p.L i)[j] cs ∧ ∀ r u, cs[r]? = some u → xs[j * 5 + r]? = some u) (d : DepT) : ∀ w7 w8 w9 : World, ∀ g c : Nat, ∀ cs : List Value, Below w.heap.size w w7 → Below w7.heap.size w7 w8 → DepC w7 (New w.heap.size w7) d cs → w9.ownsRow L 73 5 (.slice (some ⟨g, 0, none⟩) ((p.L i).length + 1) c) ((p.L i).length + 1) (xs ++ cs) → w8.grownBy w9 (v i).ownBlock → ((v i).ownBlock = some g ∨ g = w8.heap.size) →
      w9.heap[B]? = w.heap[B]? ∧ Below L w (w9.setCell ⟨B, 5 + i.val, none⟩ (.slice (some ⟨g, 0, none⟩) ((p.L i).length + 1) c)) ∧ ∃ K' v', RdR X (w9.setCell ⟨B, 5 + i.val, none⟩ (.slice (some ⟨g, 0, none⟩) ((p.L i).length + 1) c)) L B M K' out (p.add i d) true vo v' vf := by
  have hBl := h.box.lt
  have hLw : L ≤ w.heap.size := Nat.le_trans h.outs.lB (Nat.le_of_lt hBl)
  intro w7 w8 w9 g c cs hb7 hb8 hdc hown hg hat
  skip
  have hb := below_tr hb7 hb8
  obtain ⟨k1, k2, k3⟩ := grow_step ⟨h.outs.lB, hBl⟩ hb (fun b e => ⟨(hrow.lt b e).1, (h.cur.away (some i) b e).1⟩) hg (5 + i.val) (.slice (some ⟨g, 0, none⟩) ((p.L i).length + 1) c)
  have z7 := hb7.size
  have z8 := hb8.size
  have hgw : Grew w (fun b => K b ∨ New w.heap.size w7 b) (v i) g := by
    rcases hat with h1 | h1
    · exact .inl h1
    · refine .inr ⟨by omega, fun hk => ?_⟩
      rcases hk with hk | hk
      · have := (h.outs.fresh g hk).2.lt
        omega
      · have := hk.2.lt
        omega
  have hgB : g ≠ B := by
    rcases hgw with h1 | h1
    · exact (h.cur.away (some i) g h1).1
    · omega
  have hnb : ∀ b, New w.heap.size w7 b → (w9.setCell ⟨B, 5 + i.val, none⟩ (.slice (some ⟨g, 0, none⟩) ((p.L i).length + 1) c)).heap[b]? = w7.heap[b]? := fun b hb' => by
    have h1 := hb'.1
    have h2 := hb'.2.lt
    rw [set_other _ (by omega), hg.block b (by omega) (fun e => by have := (hrow.lt b e.symm).2; omega), hb8.block b h2]
  have hcur := h.cur.addDepR (w' := w9.setCell ⟨B, 5 + i.val, none⟩ (.slice (some ⟨g, 0, none⟩) ((p.L i).length + 1) c)) (K' := fun b => K b ∨ New w.heap.size w7 b) h.outs hBl (fun _ hb => .inl hb) (fun b hb => hb.imp id (fun h => h.1)) i d
    (hdc.keep (fun b hb => .inr hb) (fun b hb _ => hnb b hb) (fun _ _ => trivial)) hrow hhas (ownsRow_to hown (fun b hb => set_other _ (by have h3 : g = b := Option.some.inj hb; omega))) hgw k1
  refine ⟨k3, k2, _, _, ?_, h.outs.grow hBl (fun _ hb => .inl hb) (fun b hb => ?_) (fun b hl hb' => k1 b hl (fun e => ?_) (fun e => ?_)), hcur⟩
  · have hs := (h.box.to k3).set (5 + i.val) (.slice (some ⟨g, 0, none⟩) ((p.L i).length + 1) c)
    unfold rrdCells at hs ⊢
    rw [rbox_put] at hs
    exact hs
  · rcases hb with hb | hb
    · exact .inl hb
    · exact .inr ⟨hb.1, by have := hb.1; omega, hb.2.keep (hnb b hb)⟩
  · subst e
    rcases hb' with e | e | e
    · exact h.outs.bm e
    · exact h.outs.kB e
    · exact h.outs.vB e
  · obtain ⟨_, a2, a3, a4⟩ := h.cur.away (some i) b e
    rcases hb' with e | e | e
    · exact a2 e
    · exact a4 e
    · exact a3 e
theorem set5 {xs : List Value} {n : Nat} (h : xs.length = n * 5) (z0 z1 z2 z3 z4 c0 c1 c2 c3 c4 : Value) : ((((((xs ++ [z0, z1, z2, z3, z4]).set (n * 5) c0).set (n * 5 + 1) c1).set (n * 5 + 2) c2).set (n * 5 + 3) c3).set (n * 5 + 4) c4) = xs ++ [c0, c1, c2, c3, c4] := by
  rw [← h]
  simp [List.set_append]
theorem rownsRow_put {w : World} {B : Nat} {e : TypeId} {k n g cap : Nat} {xs : List Value} (h : w.ownsRow B e k (.slice (some ⟨g, 0, none⟩) n cap) n xs) (o : Nat) (x : Value) : (w.setCell ⟨g, o, none⟩ x).ownsRow B e k (.slice (some ⟨g, 0, none⟩) n cap) n (xs.set o x) := by
  refine ⟨by rw [List.length_set]; exact h.1, ?_⟩
  rcases h.2 with ⟨h1, _⟩ | ⟨g', cap', cur, hv, hb, hg, h1, h2, h3, h4⟩
  · cases h1
  · injection hv with e1 _ e3
    injection e1 with e1
    injection e1 with e1 _ _
    subst e1 e3
    refine .inr ⟨_, _, _, rfl, hb, set_cells hg x, h1, h2, by simpa using h3, ?_⟩
    rw [← h4]
    simp [List.take_set]
theorem row_frozen {w : World} {B : Nat} {e : TypeId} {k n g cap : Nat} {xs : List Value} (h : w.ownsRow B e k (.slice (some ⟨g, 0, none⟩) n cap) n xs) (o : Nat) : w.frozen? ⟨g, o, none⟩ = false := by
  rcases h.2 with ⟨h1, _⟩ | ⟨g', cap', cur, hv, hb, hg, h1, h2, h3, h4⟩
  · cases h1
  · injection hv with e1 _ e3
    injection e1 with e1
    injection e1 with e1 _ _
    subst e1
    exact frozen_of hg
theorem last5 {w : World} {L g n cap : Nat} {xs : List Value} {z0 z1 z2 z3 z4 : Value} (h : w.ownsRow L 73 5 (.slice (some ⟨g, 0, none⟩) (n + 1) cap) (n + 1) (xs ++ [z0, z1, z2, z3, z4])) (hl : xs.length = n * 5) :
    w.cell? ⟨g, n * 5, none⟩ = some z0 ∧ w.cell? ⟨g, n * 5 + 1, none⟩ = some z1 ∧ w.cell? ⟨g, n * 5 + 2, none⟩ = some z2 ∧ w.cell? ⟨g, n * 5 + 3, none⟩ = some z3 ∧ w.cell? ⟨g, n * 5 + 4, none⟩ = some z4 ∧ w.frozen? ⟨g, n * 5, none⟩ = false ∧ w.frozen? ⟨g, n * 5 + 1, none⟩ = false ∧ w.frozen? ⟨g, n * 5 + 2, none⟩ = false ∧ w.frozen? ⟨g, n * 5 + 3, none⟩ = false ∧ w.frozen? ⟨g, n * 5 + 4, none⟩ = false :=
  ⟨ownsRow_cell h (by rw [← hl]; simp), ownsRow_cell h (by rw [← hl]; simp), ownsRow_cell h (by rw [← hl]; simp), ownsRow_cell h (by rw [← hl]; simp), ownsRow_cell h (by rw [← hl]; simp), row_frozen h _, row_frozen h _, row_frozen h _, row_frozen h _, row_frozen h _⟩
/-- The last of a row of dependencies is filled. -/
theorem row_fill {w : World} {L g n cap : Nat} {xs : List Value} {z0 z1 z2 z3 z4 : Value} (h : w.ownsRow L 73 5 (.slice (some ⟨g, 0, none⟩) (n + 1) cap) (n + 1) (xs ++ [z0, z1, z2, z3, z4])) (hl : xs.length = n * 5) (c0 c1 c2 c3 c4 : Value) :
    (((((w.setCell ⟨g, n * 5, none⟩ c0).setCell ⟨g, n * 5 + 1, none⟩ c1).setCell ⟨g, n * 5 + 2, none⟩ c2).setCell ⟨g, n * 5 + 3, none⟩ c3).setCell ⟨g, n * 5 + 4, none⟩ c4).ownsRow L 73 5 (.slice (some ⟨g, 0, none⟩) (n + 1) cap) (n + 1) (xs ++ [c0, c1, c2, c3, c4]) := by
  rw [← set5 hl z0 z1 z2 z3 z4]
  exact rownsRow_put (rownsRow_put (rownsRow_put (rownsRow_put (rownsRow_put h _ _) _ _) _ _) _ _) _ _
theorem set_comm {w : World} {b g o q : Nat} (h : b ≠ g) (x y : Value) : (w.setCell ⟨b, o, none⟩ x).setCell ⟨g, q, none⟩ y = (w.setCell ⟨g, q, none⟩ y).setCell ⟨b, o, none⟩ x := by
  unfold World.setCell
  simp only
  congr 1
  refine Array.ext (by simp) fun i h1 h2 => ?_
  simp only [Array.getElem_modify]
  by_cases e1 : g = i
  · by_cases e2 : b = i
    · exact absurd (e2.trans e1.symm) h
    · simp [e1, e2]
  · by_cases e2 : b = i
    · simp [e1, e2]
    · simp [e1, e2]
theorem grown_set {w w' : World} {row : Option Nat} {g : Nat} (h : w.grownBy w' row) (hg : row = some g ∨ g = w.heap.size) (o : Nat) (x : Value) : w.grownBy (w'.setCell ⟨g, o, none⟩ x) row := by
  refine ⟨h.os, h.tape, h.output, by rw [set_size]; exact h.size, fun b hb hn => ?_⟩
  rw [set_other _ (fun e => ?_)]
  · exact h.block b hb hn
  · subst e
    rcases hg with h1 | h1
    · exact hn h1.symm
    · omega
set_option maxHeartbeats 1000000 in
set_option maxRecDepth 100000 in
theorem rput_no (B : Nat) (t x : ByteArray) (h1 : bs t ≠ vndW) (h2 : bs t ≠ flsW) (h3 : listOf (bs t) = none) (w : World) :
    Calls Tryz.prog 57 #[.pointer (some ⟨B, 0, none⟩), .string t, .string x] w fun e w' => e = .returned (.int .i64 0) ∧ w' = w := by
  have hl : ∀ l : Wd, bs t ≠ l → (t.toList == l) = false := fun l h => lit_ne h
  have e1 := hl [86, 110, 100] h1
  have e2 := hl [70, 108, 115] h2
  have hk : ∀ (l : Wd) (i : Fin 7), listOf l = some i → (t.toList == l) = false := fun l i h => hl l (fun e => by
    rw [e, h] at h3
    cases h3)
  have f0 := hk [80, 114, 118] 0 (by decide)
  have f1 := hk [82, 101, 113] 1 (by decide)
  have f2 := hk [80, 114, 113] 2 (by decide)
  have f3 := hk [67, 111, 110] 3 (by decide)
  have f4 := hk [79, 98, 115] 4 (by decide)
  have f5 := hk [82, 101, 99] 5 (by decide)
  have f6 := hk [83, 117, 112] 6 (by decide)
  clear hl hk h1 h2 h3
  go_enter Tryz.func57, Tryz.ntmps57
  go_wp2_with fail
  go_ret
  exact ⟨rfl, rfl⟩
set_option maxHeartbeats 1000000 in
set_option maxRecDepth 100000 in
theorem rput_bad0 (B : Nat) (x : ByteArray) (hx : x.size ≤ 1099511627776) (hd : (depParse x).2 ≠ 0) (w : World) :
    Calls Tryz.prog 57 #[.pointer (some ⟨B, 0, none⟩), .string ⟨#[80, 114, 118]⟩, .string x] w fun e w' => e = .returned (.int .i64 130) ∧ Below w.heap.size w w' := by
  have HC := Lib.hid (rdparse_c x hx w)
  have HD := Lib.hid hd
  clear hd
  go_enter Tryz.func57, Tryz.ntmps57
  go_wp2_with fail
  refine HC.out.mono ?_
  rintro e w7 ⟨hb7, k, nm, op, ev, a, n, c, q, rfl, _, hq⟩
  have hq := hq HD.out
  have q1 : (q == 0) = false := by simpa using hq
  have q2 : (q != 0) = true := by rw [bne, q1]; rfl
  have HB7 := Lib.hid hb7
  clear hb7 HC hq
  go_wp2_with fail
  go_ret
  exact ⟨rfl, below_tr HB7.out (below1 _ _)⟩
set_option maxHeartbeats 1000000 in
set_option maxRecDepth 100000 in
theorem rput_bad1 (B : Nat) (x : ByteArray) (hx : x.size ≤ 1099511627776) (hd : (depParse x).2 ≠ 0) (w : World) :
    Calls Tryz.prog 57 #[.pointer (some ⟨B, 0, none⟩), .string ⟨#[82, 101, 113]⟩, .string x] w fun e w' => e = .returned (.int .i64 130) ∧ Below w.heap.size w w' := by
  have HC := Lib.hid (rdparse_c x hx w)
  have HD := Lib.hid hd
  clear hd
  go_enter Tryz.func57, Tryz.ntmps57
  go_wp2_with fail
  refine HC.out.mono ?_
  rintro e w7 ⟨hb7, k, nm, op, ev, a, n, c, q, rfl, _, hq⟩
  have hq := hq HD.out
  have q1 : (q == 0) = false := by simpa using hq
  have q2 : (q != 0) = true := by rw [bne, q1]; rfl
  have HB7 := Lib.hid hb7
  clear hb7 HC hq
  go_wp2_with fail
  go_ret
  exact ⟨rfl, below_tr HB7.out (below1 _ _)⟩
set_option maxHeartbeats 1000000 in
set_option maxRecDepth 100000 in
theorem rput_bad2 (B : Nat) (x : ByteArray) (hx : x.size ≤ 1099511627776) (hd : (depParse x).2 ≠ 0) (w : World) :
    Calls Tryz.prog 57 #[.pointer (some ⟨B, 0, none⟩), .string ⟨#[80, 114, 113]⟩, .string x] w fun e w' => e = .returned (.int .i64 130) ∧ Below w.heap.size w w' := by
  have HC := Lib.hid (rdparse_c x hx w)
  have HD := Lib.hid hd
  clear hd
  go_enter Tryz.func57, Tryz.ntmps57
  go_wp2_with fail
  refine HC.out.mono ?_
  rintro e w7 ⟨hb7, k, nm, op, ev, a, n, c, q, rfl, _, hq⟩
  have hq := hq HD.out
  have q1 : (q == 0) = false := by simpa using hq
  have q2 : (q != 0) = true := by rw [bne, q1]; rfl
  have HB7 := Lib.hid hb7
  clear hb7 HC hq
  go_wp2_with fail
  go_ret
  exact ⟨rfl, below_tr HB7.out (below1 _ _)⟩
set_option maxHeartbeats 1000000 in
set_option maxRecDepth 100000 in
theorem rput_bad3 (B : Nat) (x : ByteArray) (hx : x.size ≤ 1099511627776) (hd : (depParse x).2 ≠ 0) (w : World) :
    Calls Tryz.prog 57 #[.pointer (some ⟨B, 0, none⟩), .string ⟨#[67, 111, 110]⟩, .string x] w fun e w' => e = .returned (.int .i64 130) ∧ Below w.heap.size w w' := by
  have HC := Lib.hid (rdparse_c x hx w)
  have HD := Lib.hid hd
  clear hd
  go_enter Tryz.func57, Tryz.ntmps57
  go_wp2_with fail
  refine HC.out.mono ?_
  rintro e w7 ⟨hb7, k, nm, op, ev, a, n, c, q, rfl, _, hq⟩
  have hq := hq HD.out
  have q1 : (q == 0) = false := by simpa using hq
  have q2 : (q != 0) = true := by rw [bne, q1]; rfl
  have HB7 := Lib.hid hb7
  clear hb7 HC hq
  go_wp2_with fail
  go_ret
  exact ⟨rfl, below_tr HB7.out (below1 _ _)⟩
set_option maxHeartbeats 1000000 in
set_option maxRecDepth 100000 in
theorem rput_bad4 (B : Nat) (x : ByteArray) (hx : x.size ≤ 1099511627776) (hd : (depParse x).2 ≠ 0) (w : World) :
    Calls Tryz.prog 57 #[.pointer (some ⟨B, 0, none⟩), .string ⟨#[79, 98, 115]⟩, .string x] w fun e w' => e = .returned (.int .i64 130) ∧ Below w.heap.size w w' := by
  have HC := Lib.hid (rdparse_c x hx w)
  have HD := Lib.hid hd
  clear hd
  go_enter Tryz.func57, Tryz.ntmps57
  go_wp2_with fail
  refine HC.out.mono ?_
  rintro e w7 ⟨hb7, k, nm, op, ev, a, n, c, q, rfl, _, hq⟩
  have hq := hq HD.out
  have q1 : (q == 0) = false := by simpa using hq
  have q2 : (q != 0) = true := by rw [bne, q1]; rfl
  have HB7 := Lib.hid hb7
  clear hb7 HC hq
  go_wp2_with fail
  go_ret
  exact ⟨rfl, below_tr HB7.out (below1 _ _)⟩
set_option maxHeartbeats 1000000 in
set_option maxRecDepth 100000 in
theorem rput_bad5 (B : Nat) (x : ByteArray) (hx : x.size ≤ 1099511627776) (hd : (depParse x).2 ≠ 0) (w : World) :
    Calls Tryz.prog 57 #[.pointer (some ⟨B, 0, none⟩), .string ⟨#[82, 101, 99]⟩, .string x] w fun e w' => e = .returned (.int .i64 130) ∧ Below w.heap.size w w' := by
  have HC := Lib.hid (rdparse_c x hx w)
  have HD := Lib.hid hd
  clear hd
  go_enter Tryz.func57, Tryz.ntmps57
  go_wp2_with fail
  refine HC.out.mono ?_
  rintro e w7 ⟨hb7, k, nm, op, ev, a, n, c, q, rfl, _, hq⟩
  have hq := hq HD.out
  have q1 : (q == 0) = false := by simpa using hq
  have q2 : (q != 0) = true := by rw [bne, q1]; rfl
  have HB7 := Lib.hid hb7
  clear hb7 HC hq
  go_wp2_with fail
  go_ret
  exact ⟨rfl, below_tr HB7.out (below1 _ _)⟩
set_option maxHeartbeats 1000000 in
set_option maxRecDepth 100000 in
theorem rput_bad6 (B : Nat) (x : ByteArray) (hx : x.size ≤ 1099511627776) (hd : (depParse x).2 ≠ 0) (w : World) :
    Calls Tryz.prog 57 #[.pointer (some ⟨B, 0, none⟩), .string ⟨#[83, 117, 112]⟩, .string x] w fun e w' => e = .returned (.int .i64 130) ∧ Below w.heap.size w w' := by
  have HC := Lib.hid (rdparse_c x hx w)
  have HD := Lib.hid hd
  clear hd
  go_enter Tryz.func57, Tryz.ntmps57
  go_wp2_with fail
  refine HC.out.mono ?_
  rintro e w7 ⟨hb7, k, nm, op, ev, a, n, c, q, rfl, _, hq⟩
  have hq := hq HD.out
  have q1 : (q == 0) = false := by simpa using hq
  have q2 : (q != 0) = true := by rw [bne, q1]; rfl
  have HB7 := Lib.hid hb7
  clear hb7 HC hq
  go_wp2_with fail
  go_ret
  exact ⟨rfl, below_tr HB7.out (below1 _ _)⟩
end Go.Proofs.YtjcefgjgjhdbpaaGreatDoor
namespace Go.Proofs.YtjcefgjgjhdbpaaGreatDoor
set_option linter.unusedVariables false
set_option linter.unusedSimpArgs false
open Go.RowKit Go.Maps
variable {X : Obj}

set_option maxHeartbeats 4000000 in
set_option maxRecDepth 100000 in
theorem rput_one0 (L B M : Nat) (K : Nat → Prop) (out : List PkgT) (p : SP) (vo : Value) (v : Fin 7 → Value) (vf : Value) (x : ByteArray) (hx : x.size ≤ 1099511627776) (d : DepT) (hd : depParse x = (d, 0)) (hn : (p.L 0).length ≤ 1000000) (w : World) (h : RdR X w L B M K out p true vo v vf) :
    Calls Tryz.prog 57 #[.pointer (some ⟨B, 0, none⟩), .string ⟨#[80, 114, 118]⟩, .string x] w fun e w' => e = .returned (.int .i64 0) ∧ Below L w w' ∧ ∃ K' v', RdR X w' L B M K' out (p.add 0 d) true vo v' vf := by
  obtain ⟨xs, hrow, hhas⟩ := h.cur.rows 0
  obtain ⟨va, vc, hva⟩ := ownsRow_slice hrow
  have hBl := h.box.lt
  have hLw : L ≤ w.heap.size := Nat.le_trans h.outs.lB (Nat.le_of_lt hBl)
  have HC := Lib.hid (rdparse_c x hx w)
  rw [hd] at HC
  have hlen := hrow.1
  have HNX := Lib.hid (rput_fin h 0 hrow hhas d)
  have HROW := Lib.hid hrow
  have HB := Lib.hid h.box
  have HSW : Hid (∀ W : World, W.heap[B]? = w.heap[B]? → W.cell? ⟨B, 5, none⟩ = some (.slice va (p.L 0).length vc) ∧ W.frozen? ⟨B, 5, none⟩ = false) := Lib.hid fun W hW => ⟨(HB.out.to hW).cell (by rw [← hva]; exact rbox_at vo p.name p.evr p.arch p.vendor v vf (.bool true) 0), (HB.out.to hW).frozen _⟩
  have HAW : Hid (∀ x, (v 0).ownBlock = some x → x ≠ B ∧ x < w.heap.size) := Lib.hid fun x hx => ⟨(h.cur.away (some 0) x hx).1, (hrow.lt x hx).2⟩
  obtain ⟨i0, hi9, hz90, hz91, hz92⟩ := info_parts info63p
  rw [hva] at HNX HROW HAW
  clear h hrow hhas hva hd
  generalize (p.L 0).length = n at *
  go_enter Tryz.func57, Tryz.ntmps57
  go_wp2_with fail
  refine HC.out.mono ?_
  rintro e w7 ⟨hb7, k, nm, op, ev, a, nn, c, q, rfl, hq, _⟩
  obtain ⟨rfl, hdc⟩ := hq rfl
  have HB7 := Lib.hid hb7
  have HDC := Lib.hid hdc
  clear hdc hb7 HC hq
  go_upto_region 21 with fail
  obtain ⟨w8, e8⟩ : ∃ w8, w7.alloc (.cells #[.int .i64 k, .string nm, .int .i64 op, .string ev, .slice a nn c] 73) = w8 := ⟨_, rfl⟩
  have HB8 : Hid (Below w7.heap.size w7 w8 ∧ BoxN w8 w7.heap.size [.int .i64 k, .string nm, .int .i64 op, .string ev, .slice a nn c] 73 ∧ Below w.heap.size w w8) := Lib.hid <| by
    rw [← e8]
    exact ⟨below1 _ _, boxN_alloc _ _ _, below_tr HB7.out (below1 _ _)⟩
  rw [e8]
  clear e8
  have HS8 : Hid (∀ W : World, W.heap[B]? = w.heap[B]? ∧ W.heap[w7.heap.size]? = w8.heap[w7.heap.size]? → W.cell? ⟨B, 5, none⟩ = some (.slice va n vc) ∧ W.cell? ⟨w7.heap.size, 0, none⟩ = some (.int .i64 k) ∧ W.cell? ⟨w7.heap.size, 1, none⟩ = some (.string nm) ∧ W.cell? ⟨w7.heap.size, 2, none⟩ = some (.int .i64 op) ∧ W.cell? ⟨w7.heap.size, 3, none⟩ = some (.string ev) ∧ W.cell? ⟨w7.heap.size, 4, none⟩ = some (.slice a nn c)) := Lib.hid fun W hW => by
    have h1 := HB8.out.2.1.to hW.2
    exact ⟨(HSW.out W hW.1).1, h1.cell (j := 0) rfl, h1.cell (j := 1) rfl, h1.cell (j := 2) rfl, h1.cell (j := 3) rfl, h1.cell (j := 4) rfl⟩
  refine wp_region_two (fun W => W.heap[B]? = w.heap[B]? ∧ W.heap[w7.heap.size]? = w8.heap[w7.heap.size]?) 8 [(true, 0), (true, 1), (true, 2), (true, 3), (true, 4), (true, 5), (true, 6), (false, 7), (false, 8)] [9, 11, 12, 13] 10 14 (by kernel_rfl) (by kernel_rfl) (fun _ _ d _ _ h => by cases d <;> exact h) ⟨HB8.out.2.2.block B hBl, rfl⟩ ?_
  intro wd hwd hS
  simp only [ordOps, List.map_cons, List.map_nil, Array.getD_eq_getD_getElem?, List.getElem?_toArray, List.getElem?_cons_succ, List.getElem?_cons_zero, Option.getD_some]
  iterate 7 (refine ordR_q rfl _ (fun w' hS' K hK => (by obtain ⟨y0, y1, y2, y3, y4, y5⟩ := HS8.out w' hS'; clear hS'; go_simp; exact hK)) (fun K hK => ?_); go_simp; refine hK _ ?_; clear hK K)
  have HBd : Hid (Below w8.heap.size w8 wd) := Lib.hid (by rw [hwd.out]; exact below_dr1 (Below.refl _ _))
  clear hS hwd
  have HBw : Hid (Below w7.heap.size w7 wd) := Lib.hid (below_tr HB8.out.1 HBd.out)
  have HBW : Hid (Below w.heap.size w wd) := Lib.hid (below_tr HB7.out HBw.out)
  have hsl : w7.heap.size < w8.heap.size := HB8.out.2.1.lt
  replace hsl := Lib.hid hsl
  obtain ⟨w6, e6⟩ : ∃ w6, wd.alloc (.cells #[.int .i64 0, .string ⟨#[]⟩, .int .i64 0, .string ⟨#[]⟩, .slice none 0 0] 73) = w6 := ⟨_, rfl⟩
  have HB6 : Hid (Below w7.heap.size w7 w6 ∧ BoxN w6 wd.heap.size [.int .i64 0, .string ⟨#[]⟩, .int .i64 0, .string ⟨#[]⟩, .slice none 0 0] 73 ∧ Below w.heap.size w w6 ∧ w6.heap[w7.heap.size]? = w8.heap[w7.heap.size]?) := Lib.hid <| by
    rw [← e6]
    exact ⟨below_tr HBw.out (below1 _ _), boxN_alloc _ _ _, below_tr HBW.out (below1 _ _), ((below1 wd _).block _ (Nat.lt_of_lt_of_le hsl.out HBd.out.size)).trans (HBd.out.block _ hsl.out)⟩
  have HSZ6 : Hid (wd.heap.size ≤ w6.heap.size) := Lib.hid (by rw [← e6]; simp)
  refine ordR_l rfl (fun K hK => ?_)
  go_simp
  refine hK _ _ ⟨fun _ => ⟨HB6.out.2.2.1.block B hBl, HB6.out.2.2.2⟩, ?_⟩
  clear hK K e6
  refine ordR_l rfl (fun K hK => ?_)
  refine wp_append_lies _ (.tmp 54) (.tmp 57) 33 rfl L 73 i0 _ 5 72 Tryz.underlying33 hi9 hz90 hz91 hz92 rfl (by decide) (.slice va n vc) n xs rfl (ownsRow_below HROW.out HB6.out.2.2.1) ⟨wd.heap.size, 0, none⟩ 1 1 [.int .i64 0, .string ⟨#[]⟩, .int .i64 0, .string ⟨#[]⟩, .slice none 0 0] rfl rfl (World.news_of_block (cs := #[.int .i64 0, .string ⟨#[]⟩, .int .i64 0, .string ⟨#[]⟩, .slice none 0 0]) (t := 73) (fr := (0, 0)) HB6.out.2.1) (by intro u hu; simp only [List.mem_cons, List.not_mem_nil, or_false] at hu; rcases hu with rfl | rfl | rfl | rfl | rfl <;> rfl) (by decide) (by unfold maxLen; omega) (by omega) (Nat.le_trans hLw HB6.out.2.2.1.size) _ rfl ?_
  intro g9 c9 w9 hown9 hgrow9 hat9 hlt9
  have HG9 : Hid (g9 ≠ B ∧ g9 ≠ w7.heap.size ∧ w9.heap[B]? = w.heap[B]? ∧ w9.heap[w7.heap.size]? = w8.heap[w7.heap.size]?) := Lib.hid <| by
    have q1 := HB7.out.size
    have q2 := hsl.out
    have q3 := HBd.out.size
    have q4 := HSZ6.out
    refine ⟨?_, ?_, ?_, ?_⟩
    · rcases hat9 with h1 | h1
      · exact (HAW.out _ h1).1
      · omega
    · rcases hat9 with h1 | h1
      · have := (HAW.out _ h1).2
        omega
      · omega
    · exact (hgrow9.block B (by omega) (fun e => (HAW.out _ e.symm).1 rfl)).trans (HB6.out.2.2.1.block B hBl)
    · exact (hgrow9.block _ (by omega) (fun e => by have := (HAW.out _ e.symm).2; omega)).trans HB6.out.2.2.2
  have H9 := Lib.hid (HNX.out w7 w6 _ g9 c9 _ HB7.out HB6.out.1 HDC.out (row_fill hown9 hlen (.int .i64 k) (.string nm) (.int .i64 op) (.string ev) (.slice a nn c)) (grown_set (grown_set (grown_set (grown_set (grown_set hgrow9 hat9 _ _) hat9 _ _) hat9 _ _) hat9 _ _) hat9 _ _) hat9)
  have HOWN := Lib.hid hown9
  clear hown9 hgrow9 hat9 hlt9 HNX
  have hidx0 : (n : Int) < ((n : Int) + 1) := by omega
  have hidx1 : (0 : Int) ≤ (n : Int) := by omega
  have hidx2 : n < n + 1 := by omega
  refine hK _ _ ⟨fun h => absurd rfl h, ?_⟩
  clear hK K
  refine ordR_nil ?_
  iterate 4 (refine ordF_q _ (fun w' K hK => (by go_simp; exact hK)) (fun K hK => ?_); go_simp; refine hK _ ?_; clear hK K)
  obtain ⟨c0, c1, c2, c3, c4, d0, d1, d2, d3, d4⟩ := last5 HOWN.out hlen
  obtain ⟨W5, e5⟩ : ∃ W5, (((((w9.setCell ⟨g9, n * 5, none⟩ (.int .i64 k)).setCell ⟨g9, n * 5 + 1, none⟩ (.string nm)).setCell ⟨g9, n * 5 + 2, none⟩ (.int .i64 op)).setCell ⟨g9, n * 5 + 3, none⟩ (.string ev)).setCell ⟨g9, n * 5 + 4, none⟩ (.slice a nn c)) = W5 := ⟨_, rfl⟩
  rw [e5] at H9
  have HE5 := Lib.hid e5
  clear e5
  have HB5 : Hid (W5.heap[B]? = w.heap[B]?) := Lib.hid H9.out.1
  refine ordF_end (fun K hK => ?_) (fun K hK => ?_)
  · have e5 := HE5.out
    go_simp
    refine hK _ _ ?_
    clear hK K c0 c1 c2 c3 c4 d0 d1 d2 d3 d4
    obtain ⟨b0, f0⟩ := HSW.out W5 HB5.out
    try rw [e5]
    clear e5
    go_simp
    clear b0 f0
    go_wp2_with fail
    go_ret
    exact ⟨rfl, H9.out.2.1, H9.out.2.2⟩
  · obtain ⟨b0, f0⟩ := HSW.out w9 HG9.out.2.2.1
    go_simp
    obtain ⟨WB, eB⟩ : ∃ WB, w9.setCell ⟨B, 5, none⟩ (.slice (some ⟨g9, 0, none⟩) (n + 1) c9) = WB := ⟨_, rfl⟩
    have hkB : WB.heap[g9]? = w9.heap[g9]? := by rw [← eB]; exact set_other _ HG9.out.1
    have HOB := Lib.hid (ownsRow_to HOWN.out (w' := WB) (fun g hg => by obtain rfl : g9 = g := Option.some.inj hg; exact hkB))
    refine hK _ _ ?_
    clear hK K c0 c1 c2 c3 c4 d0 d1 d2 d3 d4 b0 f0 hkB
    try rw [eB]
    have HEB := Lib.hid eB
    clear eB
    obtain ⟨c0, c1, c2, c3, c4, d0, d1, d2, d3, d4⟩ := last5 HOB.out hlen
    have HCM : Hid ((((((WB.setCell ⟨g9, n * 5, none⟩ (.int .i64 k)).setCell ⟨g9, n * 5 + 1, none⟩ (.string nm)).setCell ⟨g9, n * 5 + 2, none⟩ (.int .i64 op)).setCell ⟨g9, n * 5 + 3, none⟩ (.string ev)).setCell ⟨g9, n * 5 + 4, none⟩ (.slice a nn c)) = W5.setCell ⟨B, 5, none⟩ (.slice (some ⟨g9, 0, none⟩) (n + 1) c9)) := Lib.hid (by
      have hne : B ≠ g9 := Ne.symm HG9.out.1
      rw [← HEB.out, ← HE5.out, set_comm hne, set_comm hne, set_comm hne, set_comm hne, set_comm hne])
    go_simp
    rw [HCM.out]
    clear c0 c1 c2 c3 c4 d0 d1 d2 d3 d4
    go_wp2_with fail
    go_ret
    exact ⟨rfl, H9.out.2.1, H9.out.2.2⟩
set_option maxHeartbeats 4000000 in
set_option maxRecDepth 100000 in
theorem rput_one1 (L B M : Nat) (K : Nat → Prop) (out : List PkgT) (p : SP) (vo : Value) (v : Fin 7 → Value) (vf : Value) (x : ByteArray) (hx : x.size ≤ 1099511627776) (d : DepT) (hd : depParse x = (d, 0)) (hn : (p.L 1).length ≤ 1000000) (w : World) (h : RdR X w L B M K out p true vo v vf) :
    Calls Tryz.prog 57 #[.pointer (some ⟨B, 0, none⟩), .string ⟨#[82, 101, 113]⟩, .string x] w fun e w' => e = .returned (.int .i64 0) ∧ Below L w w' ∧ ∃ K' v', RdR X w' L B M K' out (p.add 1 d) true vo v' vf := by
  obtain ⟨xs, hrow, hhas⟩ := h.cur.rows 1
  obtain ⟨va, vc, hva⟩ := ownsRow_slice hrow
  have hBl := h.box.lt
  have hLw : L ≤ w.heap.size := Nat.le_trans h.outs.lB (Nat.le_of_lt hBl)
  have HC := Lib.hid (rdparse_c x hx w)
  rw [hd] at HC
  have hlen := hrow.1
  have HNX := Lib.hid (rput_fin h 1 hrow hhas d)
  have HROW := Lib.hid hrow
  have HB := Lib.hid h.box
  have HSW : Hid (∀ W : World, W.heap[B]? = w.heap[B]? → W.cell? ⟨B, 6, none⟩ = some (.slice va (p.L 1).length vc) ∧ W.frozen? ⟨B, 6, none⟩ = false) := Lib.hid fun W hW => ⟨(HB.out.to hW).cell (by rw [← hva]; exact rbox_at vo p.name p.evr p.arch p.vendor v vf (.bool true) 1), (HB.out.to hW).frozen _⟩
  have HAW : Hid (∀ x, (v 1).ownBlock = some x → x ≠ B ∧ x < w.heap.size) := Lib.hid fun x hx => ⟨(h.cur.away (some 1) x hx).1, (hrow.lt x hx).2⟩
  obtain ⟨i0, hi9, hz90, hz91, hz92⟩ := info_parts info63p
  rw [hva] at HNX HROW HAW
  clear h hrow hhas hva hd
  generalize (p.L 1).length = n at *
  go_enter Tryz.func57, Tryz.ntmps57
  go_wp2_with fail
  refine HC.out.mono ?_
  rintro e w7 ⟨hb7, k, nm, op, ev, a, nn, c, q, rfl, hq, _⟩
  obtain ⟨rfl, hdc⟩ := hq rfl
  have HB7 := Lib.hid hb7
  have HDC := Lib.hid hdc
  clear hdc hb7 HC hq
  go_upto_region 23 with fail
  obtain ⟨w8, e8⟩ : ∃ w8, w7.alloc (.cells #[.int .i64 k, .string nm, .int .i64 op, .string ev, .slice a nn c] 73) = w8 := ⟨_, rfl⟩
  have HB8 : Hid (Below w7.heap.size w7 w8 ∧ BoxN w8 w7.heap.size [.int .i64 k, .string nm, .int .i64 op, .string ev, .slice a nn c] 73 ∧ Below w.heap.size w w8) := Lib.hid <| by
    rw [← e8]
    exact ⟨below1 _ _, boxN_alloc _ _ _, below_tr HB7.out (below1 _ _)⟩
  rw [e8]
  clear e8
  have HS8 : Hid (∀ W : World, W.heap[B]? = w.heap[B]? ∧ W.heap[w7.heap.size]? = w8.heap[w7.heap.size]? → W.cell? ⟨B, 6, none⟩ = some (.slice va n vc) ∧ W.cell? ⟨w7.heap.size, 0, none⟩ = some (.int .i64 k) ∧ W.cell? ⟨w7.heap.size, 1, none⟩ = some (.string nm) ∧ W.cell? ⟨w7.heap.size, 2, none⟩ = some (.int .i64 op) ∧ W.cell? ⟨w7.heap.size, 3, none⟩ = some (.string ev) ∧ W.cell? ⟨w7.heap.size, 4, none⟩ = some (.slice a nn c)) := Lib.hid fun W hW => by
    have h1 := HB8.out.2.1.to hW.2
    exact ⟨(HSW.out W hW.1).1, h1.cell (j := 0) rfl, h1.cell (j := 1) rfl, h1.cell (j := 2) rfl, h1.cell (j := 3) rfl, h1.cell (j := 4) rfl⟩
  refine wp_region_two (fun W => W.heap[B]? = w.heap[B]? ∧ W.heap[w7.heap.size]? = w8.heap[w7.heap.size]?) 8 [(true, 0), (true, 1), (true, 2), (true, 3), (true, 4), (true, 5), (true, 6), (false, 7), (false, 8)] [9, 11, 12, 13] 10 14 (by kernel_rfl) (by kernel_rfl) (fun _ _ d _ _ h => by cases d <;> exact h) ⟨HB8.out.2.2.block B hBl, rfl⟩ ?_
  intro wd hwd hS
  simp only [ordOps, List.map_cons, List.map_nil, Array.getD_eq_getD_getElem?, List.getElem?_toArray, List.getElem?_cons_succ, List.getElem?_cons_zero, Option.getD_some]
  iterate 7 (refine ordR_q rfl _ (fun w' hS' K hK => (by obtain ⟨y0, y1, y2, y3, y4, y5⟩ := HS8.out w' hS'; clear hS'; go_simp; exact hK)) (fun K hK => ?_); go_simp; refine hK _ ?_; clear hK K)
  have HBd : Hid (Below w8.heap.size w8 wd) := Lib.hid (by rw [hwd.out]; exact below_dr1 (Below.refl _ _))
  clear hS hwd
  have HBw : Hid (Below w7.heap.size w7 wd) := Lib.hid (below_tr HB8.out.1 HBd.out)
  have HBW : Hid (Below w.heap.size w wd) := Lib.hid (below_tr HB7.out HBw.out)
  have hsl : w7.heap.size < w8.heap.size := HB8.out.2.1.lt
  replace hsl := Lib.hid hsl
  obtain ⟨w6, e6⟩ : ∃ w6, wd.alloc (.cells #[.int .i64 0, .string ⟨#[]⟩, .int .i64 0, .string ⟨#[]⟩, .slice none 0 0] 73) = w6 := ⟨_, rfl⟩
  have HB6 : Hid (Below w7.heap.size w7 w6 ∧ BoxN w6 wd.heap.size [.int .i64 0, .string ⟨#[]⟩, .int .i64 0, .string ⟨#[]⟩, .slice none 0 0] 73 ∧ Below w.heap.size w w6 ∧ w6.heap[w7.heap.size]? = w8.heap[w7.heap.size]?) := Lib.hid <| by
    rw [← e6]
    exact ⟨below_tr HBw.out (below1 _ _), boxN_alloc _ _ _, below_tr HBW.out (below1 _ _), ((below1 wd _).block _ (Nat.lt_of_lt_of_le hsl.out HBd.out.size)).trans (HBd.out.block _ hsl.out)⟩
  have HSZ6 : Hid (wd.heap.size ≤ w6.heap.size) := Lib.hid (by rw [← e6]; simp)
  refine ordR_l rfl (fun K hK => ?_)
  go_simp
  refine hK _ _ ⟨fun _ => ⟨HB6.out.2.2.1.block B hBl, HB6.out.2.2.2⟩, ?_⟩
  clear hK K e6
  refine ordR_l rfl (fun K hK => ?_)
  refine wp_append_lies _ (.tmp 69) (.tmp 72) 33 rfl L 73 i0 _ 5 72 Tryz.underlying33 hi9 hz90 hz91 hz92 rfl (by decide) (.slice va n vc) n xs rfl (ownsRow_below HROW.out HB6.out.2.2.1) ⟨wd.heap.size, 0, none⟩ 1 1 [.int .i64 0, .string ⟨#[]⟩, .int .i64 0, .string ⟨#[]⟩, .slice none 0 0] rfl rfl (World.news_of_block (cs := #[.int .i64 0, .string ⟨#[]⟩, .int .i64 0, .string ⟨#[]⟩, .slice none 0 0]) (t := 73) (fr := (0, 0)) HB6.out.2.1) (by intro u hu; simp only [List.mem_cons, List.not_mem_nil, or_false] at hu; rcases hu with rfl | rfl | rfl | rfl | rfl <;> rfl) (by decide) (by unfold maxLen; omega) (by omega) (Nat.le_trans hLw HB6.out.2.2.1.size) _ rfl ?_
  intro g9 c9 w9 hown9 hgrow9 hat9 hlt9
  have HG9 : Hid (g9 ≠ B ∧ g9 ≠ w7.heap.size ∧ w9.heap[B]? = w.heap[B]? ∧ w9.heap[w7.heap.size]? = w8.heap[w7.heap.size]?) := Lib.hid <| by
    have q1 := HB7.out.size
    have q2 := hsl.out
    have q3 := HBd.out.size
    have q4 := HSZ6.out
    refine ⟨?_, ?_, ?_, ?_⟩
    · rcases hat9 with h1 | h1
      · exact (HAW.out _ h1).1
      · omega
    · rcases hat9 with h1 | h1
      · have := (HAW.out _ h1).2
        omega
      · omega
    · exact (hgrow9.block B (by omega) (fun e => (HAW.out _ e.symm).1 rfl)).trans (HB6.out.2.2.1.block B hBl)
    · exact (hgrow9.block _ (by omega) (fun e => by have := (HAW.out _ e.symm).2; omega)).trans HB6.out.2.2.2
  have H9 := Lib.hid (HNX.out w7 w6 _ g9 c9 _ HB7.out HB6.out.1 HDC.out (row_fill hown9 hlen (.int .i64 k) (.string nm) (.int .i64 op) (.string ev) (.slice a nn c)) (grown_set (grown_set (grown_set (grown_set (grown_set hgrow9 hat9 _ _) hat9 _ _) hat9 _ _) hat9 _ _) hat9 _ _) hat9)
  have HOWN := Lib.hid hown9
  clear hown9 hgrow9 hat9 hlt9 HNX
  have hidx0 : (n : Int) < ((n : Int) + 1) := by omega
  have hidx1 : (0 : Int) ≤ (n : Int) := by omega
  have hidx2 : n < n + 1 := by omega
  refine hK _ _ ⟨fun h => absurd rfl h, ?_⟩
  clear hK K
  refine ordR_nil ?_
  iterate 4 (refine ordF_q _ (fun w' K hK => (by go_simp; exact hK)) (fun K hK => ?_); go_simp; refine hK _ ?_; clear hK K)
  obtain ⟨c0, c1, c2, c3, c4, d0, d1, d2, d3, d4⟩ := last5 HOWN.out hlen
  obtain ⟨W5, e5⟩ : ∃ W5, (((((w9.setCell ⟨g9, n * 5, none⟩ (.int .i64 k)).setCell ⟨g9, n * 5 + 1, none⟩ (.string nm)).setCell ⟨g9, n * 5 + 2, none⟩ (.int .i64 op)).setCell ⟨g9, n * 5 + 3, none⟩ (.string ev)).setCell ⟨g9, n * 5 + 4, none⟩ (.slice a nn c)) = W5 := ⟨_, rfl⟩
  rw [e5] at H9
  have HE5 := Lib.hid e5
  clear e5
  have HB5 : Hid (W5.heap[B]? = w.heap[B]?) := Lib.hid H9.out.1
  refine ordF_end (fun K hK => ?_) (fun K hK => ?_)
  · have e5 := HE5.out
    go_simp
    refine hK _ _ ?_
    clear hK K c0 c1 c2 c3 c4 d0 d1 d2 d3 d4
    obtain ⟨b0, f0⟩ := HSW.out W5 HB5.out
    try rw [e5]
    clear e5
    go_simp
    clear b0 f0
    go_wp2_with fail
    go_ret
    exact ⟨rfl, H9.out.2.1, H9.out.2.2⟩
  · obtain ⟨b0, f0⟩ := HSW.out w9 HG9.out.2.2.1
    go_simp
    obtain ⟨WB, eB⟩ : ∃ WB, w9.setCell ⟨B, 6, none⟩ (.slice (some ⟨g9, 0, none⟩) (n + 1) c9) = WB := ⟨_, rfl⟩
    have hkB : WB.heap[g9]? = w9.heap[g9]? := by rw [← eB]; exact set_other _ HG9.out.1
    have HOB := Lib.hid (ownsRow_to HOWN.out (w' := WB) (fun g hg => by obtain rfl : g9 = g := Option.some.inj hg; exact hkB))
    refine hK _ _ ?_
    clear hK K c0 c1 c2 c3 c4 d0 d1 d2 d3 d4 b0 f0 hkB
    try rw [eB]
    have HEB := Lib.hid eB
    clear eB
    obtain ⟨c0, c1, c2, c3, c4, d0, d1, d2, d3, d4⟩ := last5 HOB.out hlen
    have HCM : Hid ((((((WB.setCell ⟨g9, n * 5, none⟩ (.int .i64 k)).setCell ⟨g9, n * 5 + 1, none⟩ (.string nm)).setCell ⟨g9, n * 5 + 2, none⟩ (.int .i64 op)).setCell ⟨g9, n * 5 + 3, none⟩ (.string ev)).setCell ⟨g9, n * 5 + 4, none⟩ (.slice a nn c)) = W5.setCell ⟨B, 6, none⟩ (.slice (some ⟨g9, 0, none⟩) (n + 1) c9)) := Lib.hid (by
      have hne : B ≠ g9 := Ne.symm HG9.out.1
      rw [← HEB.out, ← HE5.out, set_comm hne, set_comm hne, set_comm hne, set_comm hne, set_comm hne])
    go_simp
    rw [HCM.out]
    clear c0 c1 c2 c3 c4 d0 d1 d2 d3 d4
    go_wp2_with fail
    go_ret
    exact ⟨rfl, H9.out.2.1, H9.out.2.2⟩
set_option maxHeartbeats 4000000 in
set_option maxRecDepth 100000 in
theorem rput_one2 (L B M : Nat) (K : Nat → Prop) (out : List PkgT) (p : SP) (vo : Value) (v : Fin 7 → Value) (vf : Value) (x : ByteArray) (hx : x.size ≤ 1099511627776) (d : DepT) (hd : depParse x = (d, 0)) (hn : (p.L 2).length ≤ 1000000) (w : World) (h : RdR X w L B M K out p true vo v vf) :
    Calls Tryz.prog 57 #[.pointer (some ⟨B, 0, none⟩), .string ⟨#[80, 114, 113]⟩, .string x] w fun e w' => e = .returned (.int .i64 0) ∧ Below L w w' ∧ ∃ K' v', RdR X w' L B M K' out (p.add 2 d) true vo v' vf := by
  obtain ⟨xs, hrow, hhas⟩ := h.cur.rows 2
  obtain ⟨va, vc, hva⟩ := ownsRow_slice hrow
  have hBl := h.box.lt
  have hLw : L ≤ w.heap.size := Nat.le_trans h.outs.lB (Nat.le_of_lt hBl)
  have HC := Lib.hid (rdparse_c x hx w)
  rw [hd] at HC
  have hlen := hrow.1
  have HNX := Lib.hid (rput_fin h 2 hrow hhas d)
  have HROW := Lib.hid hrow
  have HB := Lib.hid h.box
  have HSW : Hid (∀ W : World, W.heap[B]? = w.heap[B]? → W.cell? ⟨B, 7, none⟩ = some (.slice va (p.L 2).length vc) ∧ W.frozen? ⟨B, 7, none⟩ = false) := Lib.hid fun W hW => ⟨(HB.out.to hW).cell (by rw [← hva]; exact rbox_at vo p.name p.evr p.arch p.vendor v vf (.bool true) 2), (HB.out.to hW).frozen _⟩
  have HAW : Hid (∀ x, (v 2).ownBlock = some x → x ≠ B ∧ x < w.heap.size) := Lib.hid fun x hx => ⟨(h.cur.away (some 2) x hx).1, (hrow.lt x hx).2⟩
  obtain ⟨i0, hi9, hz90, hz91, hz92⟩ := info_parts info63p
  rw [hva] at HNX HROW HAW
  clear h hrow hhas hva hd
  generalize (p.L 2).length = n at *
  go_enter Tryz.func57, Tryz.ntmps57
  go_wp2_with fail
  refine HC.out.mono ?_
  rintro e w7 ⟨hb7, k, nm, op, ev, a, nn, c, q, rfl, hq, _⟩
  obtain ⟨rfl, hdc⟩ := hq rfl
  have HB7 := Lib.hid hb7
  have HDC := Lib.hid hdc
  clear hdc hb7 HC hq
  go_upto_region 25 with fail
  obtain ⟨w8, e8⟩ : ∃ w8, w7.alloc (.cells #[.int .i64 k, .string nm, .int .i64 op, .string ev, .slice a nn c] 73) = w8 := ⟨_, rfl⟩
  have HB8 : Hid (Below w7.heap.size w7 w8 ∧ BoxN w8 w7.heap.size [.int .i64 k, .string nm, .int .i64 op, .string ev, .slice a nn c] 73 ∧ Below w.heap.size w w8) := Lib.hid <| by
    rw [← e8]
    exact ⟨below1 _ _, boxN_alloc _ _ _, below_tr HB7.out (below1 _ _)⟩
  rw [e8]
  clear e8
  have HS8 : Hid (∀ W : World, W.heap[B]? = w.heap[B]? ∧ W.heap[w7.heap.size]? = w8.heap[w7.heap.size]? → W.cell? ⟨B, 7, none⟩ = some (.slice va n vc) ∧ W.cell? ⟨w7.heap.size, 0, none⟩ = some (.int .i64 k) ∧ W.cell? ⟨w7.heap.size, 1, none⟩ = some (.string nm) ∧ W.cell? ⟨w7.heap.size, 2, none⟩ = some (.int .i64 op) ∧ W.cell? ⟨w7.heap.size, 3, none⟩ = some (.string ev) ∧ W.cell? ⟨w7.heap.size, 4, none⟩ = some (.slice a nn c)) := Lib.hid fun W hW => by
    have h1 := HB8.out.2.1.to hW.2
    exact ⟨(HSW.out W hW.1).1, h1.cell (j := 0) rfl, h1.cell (j := 1) rfl, h1.cell (j := 2) rfl, h1.cell (j := 3) rfl, h1.cell (j := 4) rfl⟩
  refine wp_region_two (fun W => W.heap[B]? = w.heap[B]? ∧ W.heap[w7.heap.size]? = w8.heap[w7.heap.size]?) 8 [(true, 0), (true, 1), (true, 2), (true, 3), (true, 4), (true, 5), (true, 6), (false, 7), (false, 8)] [9, 11, 12, 13] 10 14 (by kernel_rfl) (by kernel_rfl) (fun _ _ d _ _ h => by cases d <;> exact h) ⟨HB8.out.2.2.block B hBl, rfl⟩ ?_
  intro wd hwd hS
  simp only [ordOps, List.map_cons, List.map_nil, Array.getD_eq_getD_getElem?, List.getElem?_toArray, List.getElem?_cons_succ, List.getElem?_cons_zero, Option.getD_some]
  iterate 7 (refine ordR_q rfl _ (fun w' hS' K hK => (by obtain ⟨y0, y1, y2, y3, y4, y5⟩ := HS8.out w' hS'; clear hS'; go_simp; exact hK)) (fun K hK => ?_); go_simp; refine hK _ ?_; clear hK K)
  have HBd : Hid (Below w8.heap.size w8 wd) := Lib.hid (by rw [hwd.out]; exact below_dr1 (Below.refl _ _))
  clear hS hwd
  have HBw : Hid (Below w7.heap.size w7 wd) := Lib.hid (below_tr HB8.out.1 HBd.out)
  have HBW : Hid (Below w.heap.size w wd) := Lib.hid (below_tr HB7.out HBw.out)
  have hsl : w7.heap.size < w8.heap.size := HB8.out.2.1.lt
  replace hsl := Lib.hid hsl
  obtain ⟨w6, e6⟩ : ∃ w6, wd.alloc (.cells #[.int .i64 0, .string ⟨#[]⟩, .int .i64 0, .string ⟨#[]⟩, .slice none 0 0] 73) = w6 := ⟨_, rfl⟩
  have HB6 : Hid (Below w7.heap.size w7 w6 ∧ BoxN w6 wd.heap.size [.int .i64 0, .string ⟨#[]⟩, .int .i64 0, .string ⟨#[]⟩, .slice none 0 0] 73 ∧ Below w.heap.size w w6 ∧ w6.heap[w7.heap.size]? = w8.heap[w7.heap.size]?) := Lib.hid <| by
    rw [← e6]
    exact ⟨below_tr HBw.out (below1 _ _), boxN_alloc _ _ _, below_tr HBW.out (below1 _ _), ((below1 wd _).block _ (Nat.lt_of_lt_of_le hsl.out HBd.out.size)).trans (HBd.out.block _ hsl.out)⟩
  have HSZ6 : Hid (wd.heap.size ≤ w6.heap.size) := Lib.hid (by rw [← e6]; simp)
  refine ordR_l rfl (fun K hK => ?_)
  go_simp
  refine hK _ _ ⟨fun _ => ⟨HB6.out.2.2.1.block B hBl, HB6.out.2.2.2⟩, ?_⟩
  clear hK K e6
  refine ordR_l rfl (fun K hK => ?_)
  refine wp_append_lies _ (.tmp 84) (.tmp 87) 33 rfl L 73 i0 _ 5 72 Tryz.underlying33 hi9 hz90 hz91 hz92 rfl (by decide) (.slice va n vc) n xs rfl (ownsRow_below HROW.out HB6.out.2.2.1) ⟨wd.heap.size, 0, none⟩ 1 1 [.int .i64 0, .string ⟨#[]⟩, .int .i64 0, .string ⟨#[]⟩, .slice none 0 0] rfl rfl (World.news_of_block (cs := #[.int .i64 0, .string ⟨#[]⟩, .int .i64 0, .string ⟨#[]⟩, .slice none 0 0]) (t := 73) (fr := (0, 0)) HB6.out.2.1) (by intro u hu; simp only [List.mem_cons, List.not_mem_nil, or_false] at hu; rcases hu with rfl | rfl | rfl | rfl | rfl <;> rfl) (by decide) (by unfold maxLen; omega) (by omega) (Nat.le_trans hLw HB6.out.2.2.1.size) _ rfl ?_
  intro g9 c9 w9 hown9 hgrow9 hat9 hlt9
  have HG9 : Hid (g9 ≠ B ∧ g9 ≠ w7.heap.size ∧ w9.heap[B]? = w.heap[B]? ∧ w9.heap[w7.heap.size]? = w8.heap[w7.heap.size]?) := Lib.hid <| by
    have q1 := HB7.out.size
    have q2 := hsl.out
    have q3 := HBd.out.size
    have q4 := HSZ6.out
    refine ⟨?_, ?_, ?_, ?_⟩
    · rcases hat9 with h1 | h1
      · exact (HAW.out _ h1).1
      · omega
    · rcases hat9 with h1 | h1
      · have := (HAW.out _ h1).2
        omega
      · omega
    · exact (hgrow9.block B (by omega) (fun e => (HAW.out _ e.symm).1 rfl)).trans (HB6.out.2.2.1.block B hBl)
    · exact (hgrow9.block _ (by omega) (fun e => by have := (HAW.out _ e.symm).2; omega)).trans HB6.out.2.2.2
  have H9 := Lib.hid (HNX.out w7 w6 _ g9 c9 _ HB7.out HB6.out.1 HDC.out (row_fill hown9 hlen (.int .i64 k) (.string nm) (.int .i64 op) (.string ev) (.slice a nn c)) (grown_set (grown_set (grown_set (grown_set (grown_set hgrow9 hat9 _ _) hat9 _ _) hat9 _ _) hat9 _ _) hat9 _ _) hat9)
  have HOWN := Lib.hid hown9
  clear hown9 hgrow9 hat9 hlt9 HNX
  have hidx0 : (n : Int) < ((n : Int) + 1) := by omega
  have hidx1 : (0 : Int) ≤ (n : Int) := by omega
  have hidx2 : n < n + 1 := by omega
  refine hK _ _ ⟨fun h => absurd rfl h, ?_⟩
  clear hK K
  refine ordR_nil ?_
  iterate 4 (refine ordF_q _ (fun w' K hK => (by go_simp; exact hK)) (fun K hK => ?_); go_simp; refine hK _ ?_; clear hK K)
  obtain ⟨c0, c1, c2, c3, c4, d0, d1, d2, d3, d4⟩ := last5 HOWN.out hlen
  obtain ⟨W5, e5⟩ : ∃ W5, (((((w9.setCell ⟨g9, n * 5, none⟩ (.int .i64 k)).setCell ⟨g9, n * 5 + 1, none⟩ (.string nm)).setCell ⟨g9, n * 5 + 2, none⟩ (.int .i64 op)).setCell ⟨g9, n * 5 + 3, none⟩ (.string ev)).setCell ⟨g9, n * 5 + 4, none⟩ (.slice a nn c)) = W5 := ⟨_, rfl⟩
  rw [e5] at H9
  have HE5 := Lib.hid e5
  clear e5
  have HB5 : Hid (W5.heap[B]? = w.heap[B]?) := Lib.hid H9.out.1
  refine ordF_end (fun K hK => ?_) (fun K hK => ?_)
  · have e5 := HE5.out
    go_simp
    refine hK _ _ ?_
    clear hK K c0 c1 c2 c3 c4 d0 d1 d2 d3 d4
    obtain ⟨b0, f0⟩ := HSW.out W5 HB5.out
    try rw [e5]
    clear e5
    go_simp
    clear b0 f0
    go_wp2_with fail
    go_ret
    exact ⟨rfl, H9.out.2.1, H9.out.2.2⟩
  · obtain ⟨b0, f0⟩ := HSW.out w9 HG9.out.2.2.1
    go_simp
    obtain ⟨WB, eB⟩ : ∃ WB, w9.setCell ⟨B, 7, none⟩ (.slice (some ⟨g9, 0, none⟩) (n + 1) c9) = WB := ⟨_, rfl⟩
    have hkB : WB.heap[g9]? = w9.heap[g9]? := by rw [← eB]; exact set_other _ HG9.out.1
    have HOB := Lib.hid (ownsRow_to HOWN.out (w' := WB) (fun g hg => by obtain rfl : g9 = g := Option.some.inj hg; exact hkB))
    refine hK _ _ ?_
    clear hK K c0 c1 c2 c3 c4 d0 d1 d2 d3 d4 b0 f0 hkB
    try rw [eB]
    have HEB := Lib.hid eB
    clear eB
    obtain ⟨c0, c1, c2, c3, c4, d0, d1, d2, d3, d4⟩ := last5 HOB.out hlen
    have HCM : Hid ((((((WB.setCell ⟨g9, n * 5, none⟩ (.int .i64 k)).setCell ⟨g9, n * 5 + 1, none⟩ (.string nm)).setCell ⟨g9, n * 5 + 2, none⟩ (.int .i64 op)).setCell ⟨g9, n * 5 + 3, none⟩ (.string ev)).setCell ⟨g9, n * 5 + 4, none⟩ (.slice a nn c)) = W5.setCell ⟨B, 7, none⟩ (.slice (some ⟨g9, 0, none⟩) (n + 1) c9)) := Lib.hid (by
      have hne : B ≠ g9 := Ne.symm HG9.out.1
      rw [← HEB.out, ← HE5.out, set_comm hne, set_comm hne, set_comm hne, set_comm hne, set_comm hne])
    go_simp
    rw [HCM.out]
    clear c0 c1 c2 c3 c4 d0 d1 d2 d3 d4
    go_wp2_with fail
    go_ret
    exact ⟨rfl, H9.out.2.1, H9.out.2.2⟩
set_option maxHeartbeats 4000000 in
set_option maxRecDepth 100000 in
theorem rput_one3 (L B M : Nat) (K : Nat → Prop) (out : List PkgT) (p : SP) (vo : Value) (v : Fin 7 → Value) (vf : Value) (x : ByteArray) (hx : x.size ≤ 1099511627776) (d : DepT) (hd : depParse x = (d, 0)) (hn : (p.L 3).length ≤ 1000000) (w : World) (h : RdR X w L B M K out p true vo v vf) :
    Calls Tryz.prog 57 #[.pointer (some ⟨B, 0, none⟩), .string ⟨#[67, 111, 110]⟩, .string x] w fun e w' => e = .returned (.int .i64 0) ∧ Below L w w' ∧ ∃ K' v', RdR X w' L B M K' out (p.add 3 d) true vo v' vf := by
  obtain ⟨xs, hrow, hhas⟩ := h.cur.rows 3
  obtain ⟨va, vc, hva⟩ := ownsRow_slice hrow
  have hBl := h.box.lt
  have hLw : L ≤ w.heap.size := Nat.le_trans h.outs.lB (Nat.le_of_lt hBl)
  have HC := Lib.hid (rdparse_c x hx w)
  rw [hd] at HC
  have hlen := hrow.1
  have HNX := Lib.hid (rput_fin h 3 hrow hhas d)
  have HROW := Lib.hid hrow
  have HB := Lib.hid h.box
  have HSW : Hid (∀ W : World, W.heap[B]? = w.heap[B]? → W.cell? ⟨B, 8, none⟩ = some (.slice va (p.L 3).length vc) ∧ W.frozen? ⟨B, 8, none⟩ = false) := Lib.hid fun W hW => ⟨(HB.out.to hW).cell (by rw [← hva]; exact rbox_at vo p.name p.evr p.arch p.vendor v vf (.bool true) 3), (HB.out.to hW).frozen _⟩
  have HAW : Hid (∀ x, (v 3).ownBlock = some x → x ≠ B ∧ x < w.heap.size) := Lib.hid fun x hx => ⟨(h.cur.away (some 3) x hx).1, (hrow.lt x hx).2⟩
  obtain ⟨i0, hi9, hz90, hz91, hz92⟩ := info_parts info63p
  rw [hva] at HNX HROW HAW
  clear h hrow hhas hva hd
  generalize (p.L 3).length = n at *
  go_enter Tryz.func57, Tryz.ntmps57
  go_wp2_with fail
  refine HC.out.mono ?_
  rintro e w7 ⟨hb7, k, nm, op, ev, a, nn, c, q, rfl, hq, _⟩
  obtain ⟨rfl, hdc⟩ := hq rfl
  have HB7 := Lib.hid hb7
  have HDC := Lib.hid hdc
  clear hdc hb7 HC hq
  go_upto_region 27 with fail
  obtain ⟨w8, e8⟩ : ∃ w8, w7.alloc (.cells #[.int .i64 k, .string nm, .int .i64 op, .string ev, .slice a nn c] 73) = w8 := ⟨_, rfl⟩
  have HB8 : Hid (Below w7.heap.size w7 w8 ∧ BoxN w8 w7.heap.size [.int .i64 k, .string nm, .int .i64 op, .string ev, .slice a nn c] 73 ∧ Below w.heap.size w w8) := Lib.hid <| by
    rw [← e8]
    exact ⟨below1 _ _, boxN_alloc _ _ _, below_tr HB7.out (below1 _ _)⟩
  rw [e8]
  clear e8
  have HS8 : Hid (∀ W : World, W.heap[B]? = w.heap[B]? ∧ W.heap[w7.heap.size]? = w8.heap[w7.heap.size]? → W.cell? ⟨B, 8, none⟩ = some (.slice va n vc) ∧ W.cell? ⟨w7.heap.size, 0, none⟩ = some (.int .i64 k) ∧ W.cell? ⟨w7.heap.size, 1, none⟩ = some (.string nm) ∧ W.cell? ⟨w7.heap.size, 2, none⟩ = some (.int .i64 op) ∧ W.cell? ⟨w7.heap.size, 3, none⟩ = some (.string ev) ∧ W.cell? ⟨w7.heap.size, 4, none⟩ = some (.slice a nn c)) := Lib.hid fun W hW => by
    have h1 := HB8.out.2.1.to hW.2
    exact ⟨(HSW.out W hW.1).1, h1.cell (j := 0) rfl, h1.cell (j := 1) rfl, h1.cell (j := 2) rfl, h1.cell (j := 3) rfl, h1.cell (j := 4) rfl⟩
  refine wp_region_two (fun W => W.heap[B]? = w.heap[B]? ∧ W.heap[w7.heap.size]? = w8.heap[w7.heap.size]?) 8 [(true, 0), (true, 1), (true, 2), (true, 3), (true, 4), (true, 5), (true, 6), (false, 7), (false, 8)] [9, 11, 12, 13] 10 14 (by kernel_rfl) (by kernel_rfl) (fun _ _ d _ _ h => by cases d <;> exact h) ⟨HB8.out.2.2.block B hBl, rfl⟩ ?_
  intro wd hwd hS
  simp only [ordOps, List.map_cons, List.map_nil, Array.getD_eq_getD_getElem?, List.getElem?_toArray, List.getElem?_cons_succ, List.getElem?_cons_zero, Option.getD_some]
  iterate 7 (refine ordR_q rfl _ (fun w' hS' K hK => (by obtain ⟨y0, y1, y2, y3, y4, y5⟩ := HS8.out w' hS'; clear hS'; go_simp; exact hK)) (fun K hK => ?_); go_simp; refine hK _ ?_; clear hK K)
  have HBd : Hid (Below w8.heap.size w8 wd) := Lib.hid (by rw [hwd.out]; exact below_dr1 (Below.refl _ _))
  clear hS hwd
  have HBw : Hid (Below w7.heap.size w7 wd) := Lib.hid (below_tr HB8.out.1 HBd.out)
  have HBW : Hid (Below w.heap.size w wd) := Lib.hid (below_tr HB7.out HBw.out)
  have hsl : w7.heap.size < w8.heap.size := HB8.out.2.1.lt
  replace hsl := Lib.hid hsl
  obtain ⟨w6, e6⟩ : ∃ w6, wd.alloc (.cells #[.int .i64 0, .string ⟨#[]⟩, .int .i64 0, .string ⟨#[]⟩, .slice none 0 0] 73) = w6 := ⟨_, rfl⟩
  have HB6 : Hid (Below w7.heap.size w7 w6 ∧ BoxN w6 wd.heap.size [.int .i64 0, .string ⟨#[]⟩, .int .i64 0, .string ⟨#[]⟩, .slice none 0 0] 73 ∧ Below w.heap.size w w6 ∧ w6.heap[w7.heap.size]? = w8.heap[w7.heap.size]?) := Lib.hid <| by
    rw [← e6]
    exact ⟨below_tr HBw.out (below1 _ _), boxN_alloc _ _ _, below_tr HBW.out (below1 _ _), ((below1 wd _).block _ (Nat.lt_of_lt_of_le hsl.out HBd.out.size)).trans (HBd.out.block _ hsl.out)⟩
  have HSZ6 : Hid (wd.heap.size ≤ w6.heap.size) := Lib.hid (by rw [← e6]; simp)
  refine ordR_l rfl (fun K hK => ?_)
  go_simp
  refine hK _ _ ⟨fun _ => ⟨HB6.out.2.2.1.block B hBl, HB6.out.2.2.2⟩, ?_⟩
  clear hK K e6
  refine ordR_l rfl (fun K hK => ?_)
  refine wp_append_lies _ (.tmp 99) (.tmp 102) 33 rfl L 73 i0 _ 5 72 Tryz.underlying33 hi9 hz90 hz91 hz92 rfl (by decide) (.slice va n vc) n xs rfl (ownsRow_below HROW.out HB6.out.2.2.1) ⟨wd.heap.size, 0, none⟩ 1 1 [.int .i64 0, .string ⟨#[]⟩, .int .i64 0, .string ⟨#[]⟩, .slice none 0 0] rfl rfl (World.news_of_block (cs := #[.int .i64 0, .string ⟨#[]⟩, .int .i64 0, .string ⟨#[]⟩, .slice none 0 0]) (t := 73) (fr := (0, 0)) HB6.out.2.1) (by intro u hu; simp only [List.mem_cons, List.not_mem_nil, or_false] at hu; rcases hu with rfl | rfl | rfl | rfl | rfl <;> rfl) (by decide) (by unfold maxLen; omega) (by omega) (Nat.le_trans hLw HB6.out.2.2.1.size) _ rfl ?_
  intro g9 c9 w9 hown9 hgrow9 hat9 hlt9
  have HG9 : Hid (g9 ≠ B ∧ g9 ≠ w7.heap.size ∧ w9.heap[B]? = w.heap[B]? ∧ w9.heap[w7.heap.size]? = w8.heap[w7.heap.size]?) := Lib.hid <| by
    have q1 := HB7.out.size
    have q2 := hsl.out
    have q3 := HBd.out.size
    have q4 := HSZ6.out
    refine ⟨?_, ?_, ?_, ?_⟩
    · rcases hat9 with h1 | h1
      · exact (HAW.out _ h1).1
      · omega
    · rcases hat9 with h1 | h1
      · have := (HAW.out _ h1).2
        omega
      · omega
    · exact (hgrow9.block B (by omega) (fun e => (HAW.out _ e.symm).1 rfl)).trans (HB6.out.2.2.1.block B hBl)
    · exact (hgrow9.block _ (by omega) (fun e => by have := (HAW.out _ e.symm).2; omega)).trans HB6.out.2.2.2
  have H9 := Lib.hid (HNX.out w7 w6 _ g9 c9 _ HB7.out HB6.out.1 HDC.out (row_fill hown9 hlen (.int .i64 k) (.string nm) (.int .i64 op) (.string ev) (.slice a nn c)) (grown_set (grown_set (grown_set (grown_set (grown_set hgrow9 hat9 _ _) hat9 _ _) hat9 _ _) hat9 _ _) hat9 _ _) hat9)
  have HOWN := Lib.hid hown9
  clear hown9 hgrow9 hat9 hlt9 HNX
  have hidx0 : (n : Int) < ((n : Int) + 1) := by omega
  have hidx1 : (0 : Int) ≤ (n : Int) := by omega
  have hidx2 : n < n + 1 := by omega
  refine hK _ _ ⟨fun h => absurd rfl h, ?_⟩
  clear hK K
  refine ordR_nil ?_
  iterate 4 (refine ordF_q _ (fun w' K hK => (by go_simp; exact hK)) (fun K hK => ?_); go_simp; refine hK _ ?_; clear hK K)
  obtain ⟨c0, c1, c2, c3, c4, d0, d1, d2, d3, d4⟩ := last5 HOWN.out hlen
  obtain ⟨W5, e5⟩ : ∃ W5, (((((w9.setCell ⟨g9, n * 5, none⟩ (.int .i64 k)).setCell ⟨g9, n * 5 + 1, none⟩ (.string nm)).setCell ⟨g9, n * 5 + 2, none⟩ (.int .i64 op)).setCell ⟨g9, n * 5 + 3, none⟩ (.string ev)).setCell ⟨g9, n * 5 + 4, none⟩ (.slice a nn c)) = W5 := ⟨_, rfl⟩
  rw [e5] at H9
  have HE5 := Lib.hid e5
  clear e5
  have HB5 : Hid (W5.heap[B]? = w.heap[B]?) := Lib.hid H9.out.1
  refine ordF_end (fun K hK => ?_) (fun K hK => ?_)
  · have e5 := HE5.out
    go_simp
    refine hK _ _ ?_
    clear hK K c0 c1 c2 c3 c4 d0 d1 d2 d3 d4
    obtain ⟨b0, f0⟩ := HSW.out W5 HB5.out
    try rw [e5]
    clear e5
    go_simp
    clear b0 f0
    go_wp2_with fail
    go_ret
    exact ⟨rfl, H9.out.2.1, H9.out.2.2⟩
  · obtain ⟨b0, f0⟩ := HSW.out w9 HG9.out.2.2.1
    go_simp
    obtain ⟨WB, eB⟩ : ∃ WB, w9.setCell ⟨B, 8, none⟩ (.slice (some ⟨g9, 0, none⟩) (n + 1) c9) = WB := ⟨_, rfl⟩
    have hkB : WB.heap[g9]? = w9.heap[g9]? := by rw [← eB]; exact set_other _ HG9.out.1
    have HOB := Lib.hid (ownsRow_to HOWN.out (w' := WB) (fun g hg => by obtain rfl : g9 = g := Option.some.inj hg; exact hkB))
    refine hK _ _ ?_
    clear hK K c0 c1 c2 c3 c4 d0 d1 d2 d3 d4 b0 f0 hkB
    try rw [eB]
    have HEB := Lib.hid eB
    clear eB
    obtain ⟨c0, c1, c2, c3, c4, d0, d1, d2, d3, d4⟩ := last5 HOB.out hlen
    have HCM : Hid ((((((WB.setCell ⟨g9, n * 5, none⟩ (.int .i64 k)).setCell ⟨g9, n * 5 + 1, none⟩ (.string nm)).setCell ⟨g9, n * 5 + 2, none⟩ (.int .i64 op)).setCell ⟨g9, n * 5 + 3, none⟩ (.string ev)).setCell ⟨g9, n * 5 + 4, none⟩ (.slice a nn c)) = W5.setCell ⟨B, 8, none⟩ (.slice (some ⟨g9, 0, none⟩) (n + 1) c9)) := Lib.hid (by
      have hne : B ≠ g9 := Ne.symm HG9.out.1
      rw [← HEB.out, ← HE5.out, set_comm hne, set_comm hne, set_comm hne, set_comm hne, set_comm hne])
    go_simp
    rw [HCM.out]
    clear c0 c1 c2 c3 c4 d0 d1 d2 d3 d4
    go_wp2_with fail
    go_ret
    exact ⟨rfl, H9.out.2.1, H9.out.2.2⟩
set_option maxHeartbeats 4000000 in
set_option maxRecDepth 100000 in
theorem rput_one4 (L B M : Nat) (K : Nat → Prop) (out : List PkgT) (p : SP) (vo : Value) (v : Fin 7 → Value) (vf : Value) (x : ByteArray) (hx : x.size ≤ 1099511627776) (d : DepT) (hd : depParse x = (d, 0)) (hn : (p.L 4).length ≤ 1000000) (w : World) (h : RdR X w L B M K out p true vo v vf) :
    Calls Tryz.prog 57 #[.pointer (some ⟨B, 0, none⟩), .string ⟨#[79, 98, 115]⟩, .string x] w fun e w' => e = .returned (.int .i64 0) ∧ Below L w w' ∧ ∃ K' v', RdR X w' L B M K' out (p.add 4 d) true vo v' vf := by
  obtain ⟨xs, hrow, hhas⟩ := h.cur.rows 4
  obtain ⟨va, vc, hva⟩ := ownsRow_slice hrow
  have hBl := h.box.lt
  have hLw : L ≤ w.heap.size := Nat.le_trans h.outs.lB (Nat.le_of_lt hBl)
  have HC := Lib.hid (rdparse_c x hx w)
  rw [hd] at HC
  have hlen := hrow.1
  have HNX := Lib.hid (rput_fin h 4 hrow hhas d)
  have HROW := Lib.hid hrow
  have HB := Lib.hid h.box
  have HSW : Hid (∀ W : World, W.heap[B]? = w.heap[B]? → W.cell? ⟨B, 9, none⟩ = some (.slice va (p.L 4).length vc) ∧ W.frozen? ⟨B, 9, none⟩ = false) := Lib.hid fun W hW => ⟨(HB.out.to hW).cell (by rw [← hva]; exact rbox_at vo p.name p.evr p.arch p.vendor v vf (.bool true) 4), (HB.out.to hW).frozen _⟩
  have HAW : Hid (∀ x, (v 4).ownBlock = some x → x ≠ B ∧ x < w.heap.size) := Lib.hid fun x hx => ⟨(h.cur.away (some 4) x hx).1, (hrow.lt x hx).2⟩
  obtain ⟨i0, hi9, hz90, hz91, hz92⟩ := info_parts info63p
  rw [hva] at HNX HROW HAW
  clear h hrow hhas hva hd
  generalize (p.L 4).length = n at *
  go_enter Tryz.func57, Tryz.ntmps57
  go_wp2_with fail
  refine HC.out.mono ?_
  rintro e w7 ⟨hb7, k, nm, op, ev, a, nn, c, q, rfl, hq, _⟩
  obtain ⟨rfl, hdc⟩ := hq rfl
  have HB7 := Lib.hid hb7
  have HDC := Lib.hid hdc
  clear hdc hb7 HC hq
  go_upto_region 29 with fail
  obtain ⟨w8, e8⟩ : ∃ w8, w7.alloc (.cells #[.int .i64 k, .string nm, .int .i64 op, .string ev, .slice a nn c] 73) = w8 := ⟨_, rfl⟩
  have HB8 : Hid (Below w7.heap.size w7 w8 ∧ BoxN w8 w7.heap.size [.int .i64 k, .string nm, .int .i64 op, .string ev, .slice a nn c] 73 ∧ Below w.heap.size w w8) := Lib.hid <| by
    rw [← e8]
    exact ⟨below1 _ _, boxN_alloc _ _ _, below_tr HB7.out (below1 _ _)⟩
  rw [e8]
  clear e8
  have HS8 : Hid (∀ W : World, W.heap[B]? = w.heap[B]? ∧ W.heap[w7.heap.size]? = w8.heap[w7.heap.size]? → W.cell? ⟨B, 9, none⟩ = some (.slice va n vc) ∧ W.cell? ⟨w7.heap.size, 0, none⟩ = some (.int .i64 k) ∧ W.cell? ⟨w7.heap.size, 1, none⟩ = some (.string nm) ∧ W.cell? ⟨w7.heap.size, 2, none⟩ = some (.int .i64 op) ∧ W.cell? ⟨w7.heap.size, 3, none⟩ = some (.string ev) ∧ W.cell? ⟨w7.heap.size, 4, none⟩ = some (.slice a nn c)) := Lib.hid fun W hW => by
    have h1 := HB8.out.2.1.to hW.2
    exact ⟨(HSW.out W hW.1).1, h1.cell (j := 0) rfl, h1.cell (j := 1) rfl, h1.cell (j := 2) rfl, h1.cell (j := 3) rfl, h1.cell (j := 4) rfl⟩
  refine wp_region_two (fun W => W.heap[B]? = w.heap[B]? ∧ W.heap[w7.heap.size]? = w8.heap[w7.heap.size]?) 8 [(true, 0), (true, 1), (true, 2), (true, 3), (true, 4), (true, 5), (true, 6), (false, 7), (false, 8)] [9, 11, 12, 13] 10 14 (by kernel_rfl) (by kernel_rfl) (fun _ _ d _ _ h => by cases d <;> exact h) ⟨HB8.out.2.2.block B hBl, rfl⟩ ?_
  intro wd hwd hS
  simp only [ordOps, List.map_cons, List.map_nil, Array.getD_eq_getD_getElem?, List.getElem?_toArray, List.getElem?_cons_succ, List.getElem?_cons_zero, Option.getD_some]
  iterate 7 (refine ordR_q rfl _ (fun w' hS' K hK => (by obtain ⟨y0, y1, y2, y3, y4, y5⟩ := HS8.out w' hS'; clear hS'; go_simp; exact hK)) (fun K hK => ?_); go_simp; refine hK _ ?_; clear hK K)
  have HBd : Hid (Below w8.heap.size w8 wd) := Lib.hid (by rw [hwd.out]; exact below_dr1 (Below.refl _ _))
  clear hS hwd
  have HBw : Hid (Below w7.heap.size w7 wd) := Lib.hid (below_tr HB8.out.1 HBd.out)
  have HBW : Hid (Below w.heap.size w wd) := Lib.hid (below_tr HB7.out HBw.out)
  have hsl : w7.heap.size < w8.heap.size := HB8.out.2.1.lt
  replace hsl := Lib.hid hsl
  obtain ⟨w6, e6⟩ : ∃ w6, wd.alloc (.cells #[.int .i64 0, .string ⟨#[]⟩, .int .i64 0, .string ⟨#[]⟩, .slice none 0 0] 73) = w6 := ⟨_, rfl⟩
  have HB6 : Hid (Below w7.heap.size w7 w6 ∧ BoxN w6 wd.heap.size [.int .i64 0, .string ⟨#[]⟩, .int .i64 0, .string ⟨#[]⟩, .slice none 0 0] 73 ∧ Below w.heap.size w w6 ∧ w6.heap[w7.heap.size]? = w8.heap[w7.heap.size]?) := Lib.hid <| by
    rw [← e6]
    exact ⟨below_tr HBw.out (below1 _ _), boxN_alloc _ _ _, below_tr HBW.out (below1 _ _), ((below1 wd _).block _ (Nat.lt_of_lt_of_le hsl.out HBd.out.size)).trans (HBd.out.block _ hsl.out)⟩
  have HSZ6 : Hid (wd.heap.size ≤ w6.heap.size) := Lib.hid (by rw [← e6]; simp)
  refine ordR_l rfl (fun K hK => ?_)
  go_simp
  refine hK _ _ ⟨fun _ => ⟨HB6.out.2.2.1.block B hBl, HB6.out.2.2.2⟩, ?_⟩
  clear hK K e6
  refine ordR_l rfl (fun K hK => ?_)
  refine wp_append_lies _ (.tmp 114) (.tmp 117) 33 rfl L 73 i0 _ 5 72 Tryz.underlying33 hi9 hz90 hz91 hz92 rfl (by decide) (.slice va n vc) n xs rfl (ownsRow_below HROW.out HB6.out.2.2.1) ⟨wd.heap.size, 0, none⟩ 1 1 [.int .i64 0, .string ⟨#[]⟩, .int .i64 0, .string ⟨#[]⟩, .slice none 0 0] rfl rfl (World.news_of_block (cs := #[.int .i64 0, .string ⟨#[]⟩, .int .i64 0, .string ⟨#[]⟩, .slice none 0 0]) (t := 73) (fr := (0, 0)) HB6.out.2.1) (by intro u hu; simp only [List.mem_cons, List.not_mem_nil, or_false] at hu; rcases hu with rfl | rfl | rfl | rfl | rfl <;> rfl) (by decide) (by unfold maxLen; omega) (by omega) (Nat.le_trans hLw HB6.out.2.2.1.size) _ rfl ?_
  intro g9 c9 w9 hown9 hgrow9 hat9 hlt9
  have HG9 : Hid (g9 ≠ B ∧ g9 ≠ w7.heap.size ∧ w9.heap[B]? = w.heap[B]? ∧ w9.heap[w7.heap.size]? = w8.heap[w7.heap.size]?) := Lib.hid <| by
    have q1 := HB7.out.size
    have q2 := hsl.out
    have q3 := HBd.out.size
    have q4 := HSZ6.out
    refine ⟨?_, ?_, ?_, ?_⟩
    · rcases hat9 with h1 | h1
      · exact (HAW.out _ h1).1
      · omega
    · rcases hat9 with h1 | h1
      · have := (HAW.out _ h1).2
        omega
      · omega
    · exact (hgrow9.block B (by omega) (fun e => (HAW.out _ e.symm).1 rfl)).trans (HB6.out.2.2.1.block B hBl)
    · exact (hgrow9.block _ (by omega) (fun e => by have := (HAW.out _ e.symm).2; omega)).trans HB6.out.2.2.2
  have H9 := Lib.hid (HNX.out w7 w6 _ g9 c9 _ HB7.out HB6.out.1 HDC.out (row_fill hown9 hlen (.int .i64 k) (.string nm) (.int .i64 op) (.string ev) (.slice a nn c)) (grown_set (grown_set (grown_set (grown_set (grown_set hgrow9 hat9 _ _) hat9 _ _) hat9 _ _) hat9 _ _) hat9 _ _) hat9)
  have HOWN := Lib.hid hown9
  clear hown9 hgrow9 hat9 hlt9 HNX
  have hidx0 : (n : Int) < ((n : Int) + 1) := by omega
  have hidx1 : (0 : Int) ≤ (n : Int) := by omega
  have hidx2 : n < n + 1 := by omega
  refine hK _ _ ⟨fun h => absurd rfl h, ?_⟩
  clear hK K
  refine ordR_nil ?_
  iterate 4 (refine ordF_q _ (fun w' K hK => (by go_simp; exact hK)) (fun K hK => ?_); go_simp; refine hK _ ?_; clear hK K)
  obtain ⟨c0, c1, c2, c3, c4, d0, d1, d2, d3, d4⟩ := last5 HOWN.out hlen
  obtain ⟨W5, e5⟩ : ∃ W5, (((((w9.setCell ⟨g9, n * 5, none⟩ (.int .i64 k)).setCell ⟨g9, n * 5 + 1, none⟩ (.string nm)).setCell ⟨g9, n * 5 + 2, none⟩ (.int .i64 op)).setCell ⟨g9, n * 5 + 3, none⟩ (.string ev)).setCell ⟨g9, n * 5 + 4, none⟩ (.slice a nn c)) = W5 := ⟨_, rfl⟩
  rw [e5] at H9
  have HE5 := Lib.hid e5
  clear e5
  have HB5 : Hid (W5.heap[B]? = w.heap[B]?) := Lib.hid H9.out.1
  refine ordF_end (fun K hK => ?_) (fun K hK => ?_)
  · have e5 := HE5.out
    go_simp
    refine hK _ _ ?_
    clear hK K c0 c1 c2 c3 c4 d0 d1 d2 d3 d4
    obtain ⟨b0, f0⟩ := HSW.out W5 HB5.out
    try rw [e5]
    clear e5
    go_simp
    clear b0 f0
    go_wp2_with fail
    go_ret
    exact ⟨rfl, H9.out.2.1, H9.out.2.2⟩
  · obtain ⟨b0, f0⟩ := HSW.out w9 HG9.out.2.2.1
    go_simp
    obtain ⟨WB, eB⟩ : ∃ WB, w9.setCell ⟨B, 9, none⟩ (.slice (some ⟨g9, 0, none⟩) (n + 1) c9) = WB := ⟨_, rfl⟩
    have hkB : WB.heap[g9]? = w9.heap[g9]? := by rw [← eB]; exact set_other _ HG9.out.1
    have HOB := Lib.hid (ownsRow_to HOWN.out (w' := WB) (fun g hg => by obtain rfl : g9 = g := Option.some.inj hg; exact hkB))
    refine hK _ _ ?_
    clear hK K c0 c1 c2 c3 c4 d0 d1 d2 d3 d4 b0 f0 hkB
    try rw [eB]
    have HEB := Lib.hid eB
    clear eB
    obtain ⟨c0, c1, c2, c3, c4, d0, d1, d2, d3, d4⟩ := last5 HOB.out hlen
    have HCM : Hid ((((((WB.setCell ⟨g9, n * 5, none⟩ (.int .i64 k)).setCell ⟨g9, n * 5 + 1, none⟩ (.string nm)).setCell ⟨g9, n * 5 + 2, none⟩ (.int .i64 op)).setCell ⟨g9, n * 5 + 3, none⟩ (.string ev)).setCell ⟨g9, n * 5 + 4, none⟩ (.slice a nn c)) = W5.setCell ⟨B, 9, none⟩ (.slice (some ⟨g9, 0, none⟩) (n + 1) c9)) := Lib.hid (by
      have hne : B ≠ g9 := Ne.symm HG9.out.1
      rw [← HEB.out, ← HE5.out, set_comm hne, set_comm hne, set_comm hne, set_comm hne, set_comm hne])
    go_simp
    rw [HCM.out]
    clear c0 c1 c2 c3 c4 d0 d1 d2 d3 d4
    go_wp2_with fail
    go_ret
    exact ⟨rfl, H9.out.2.1, H9.out.2.2⟩
set_option maxHeartbeats 4000000 in
set_option maxRecDepth 100000 in
theorem rput_one5 (L B M : Nat) (K : Nat → Prop) (out : List PkgT) (p : SP) (vo : Value) (v : Fin 7 → Value) (vf : Value) (x : ByteArray) (hx : x.size ≤ 1099511627776) (d : DepT) (hd : depParse x = (d, 0)) (hn : (p.L 5).length ≤ 1000000) (w : World) (h : RdR X w L B M K out p true vo v vf) :
    Calls Tryz.prog 57 #[.pointer (some ⟨B, 0, none⟩), .string ⟨#[82, 101, 99]⟩, .string x] w fun e w' => e = .returned (.int .i64 0) ∧ Below L w w' ∧ ∃ K' v', RdR X w' L B M K' out (p.add 5 d) true vo v' vf := by
  obtain ⟨xs, hrow, hhas⟩ := h.cur.rows 5
  obtain ⟨va, vc, hva⟩ := ownsRow_slice hrow
  have hBl := h.box.lt
  have hLw : L ≤ w.heap.size := Nat.le_trans h.outs.lB (Nat.le_of_lt hBl)
  have HC := Lib.hid (rdparse_c x hx w)
  rw [hd] at HC
  have hlen := hrow.1
  have HNX := Lib.hid (rput_fin h 5 hrow hhas d)
  have HROW := Lib.hid hrow
  have HB := Lib.hid h.box
  have HSW : Hid (∀ W : World, W.heap[B]? = w.heap[B]? → W.cell? ⟨B, 10, none⟩ = some (.slice va (p.L 5).length vc) ∧ W.frozen? ⟨B, 10, none⟩ = false) := Lib.hid fun W hW => ⟨(HB.out.to hW).cell (by rw [← hva]; exact rbox_at vo p.name p.evr p.arch p.vendor v vf (.bool true) 5), (HB.out.to hW).frozen _⟩
  have HAW : Hid (∀ x, (v 5).ownBlock = some x → x ≠ B ∧ x < w.heap.size) := Lib.hid fun x hx => ⟨(h.cur.away (some 5) x hx).1, (hrow.lt x hx).2⟩
  obtain ⟨i0, hi9, hz90, hz91, hz92⟩ := info_parts info63p
  rw [hva] at HNX HROW HAW
  clear h hrow hhas hva hd
  generalize (p.L 5).length = n at *
  go_enter Tryz.func57, Tryz.ntmps57
  go_wp2_with fail
  refine HC.out.mono ?_
  rintro e w7 ⟨hb7, k, nm, op, ev, a, nn, c, q, rfl, hq, _⟩
  obtain ⟨rfl, hdc⟩ := hq rfl
  have HB7 := Lib.hid hb7
  have HDC := Lib.hid hdc
  clear hdc hb7 HC hq
  go_upto_region 31 with fail
  obtain ⟨w8, e8⟩ : ∃ w8, w7.alloc (.cells #[.int .i64 k, .string nm, .int .i64 op, .string ev, .slice a nn c] 73) = w8 := ⟨_, rfl⟩
  have HB8 : Hid (Below w7.heap.size w7 w8 ∧ BoxN w8 w7.heap.size [.int .i64 k, .string nm, .int .i64 op, .string ev, .slice a nn c] 73 ∧ Below w.heap.size w w8) := Lib.hid <| by
    rw [← e8]
    exact ⟨below1 _ _, boxN_alloc _ _ _, below_tr HB7.out (below1 _ _)⟩
  rw [e8]
  clear e8
  have HS8 : Hid (∀ W : World, W.heap[B]? = w.heap[B]? ∧ W.heap[w7.heap.size]? = w8.heap[w7.heap.size]? → W.cell? ⟨B, 10, none⟩ = some (.slice va n vc) ∧ W.cell? ⟨w7.heap.size, 0, none⟩ = some (.int .i64 k) ∧ W.cell? ⟨w7.heap.size, 1, none⟩ = some (.string nm) ∧ W.cell? ⟨w7.heap.size, 2, none⟩ = some (.int .i64 op) ∧ W.cell? ⟨w7.heap.size, 3, none⟩ = some (.string ev) ∧ W.cell? ⟨w7.heap.size, 4, none⟩ = some (.slice a nn c)) := Lib.hid fun W hW => by
    have h1 := HB8.out.2.1.to hW.2
    exact ⟨(HSW.out W hW.1).1, h1.cell (j := 0) rfl, h1.cell (j := 1) rfl, h1.cell (j := 2) rfl, h1.cell (j := 3) rfl, h1.cell (j := 4) rfl⟩
  refine wp_region_two (fun W => W.heap[B]? = w.heap[B]? ∧ W.heap[w7.heap.size]? = w8.heap[w7.heap.size]?) 8 [(true, 0), (true, 1), (true, 2), (true, 3), (true, 4), (true, 5), (true, 6), (false, 7), (false, 8)] [9, 11, 12, 13] 10 14 (by kernel_rfl) (by kernel_rfl) (fun _ _ d _ _ h => by cases d <;> exact h) ⟨HB8.out.2.2.block B hBl, rfl⟩ ?_
  intro wd hwd hS
  simp only [ordOps, List.map_cons, List.map_nil, Array.getD_eq_getD_getElem?, List.getElem?_toArray, List.getElem?_cons_succ, List.getElem?_cons_zero, Option.getD_some]
  iterate 7 (refine ordR_q rfl _ (fun w' hS' K hK => (by obtain ⟨y0, y1, y2, y3, y4, y5⟩ := HS8.out w' hS'; clear hS'; go_simp; exact hK)) (fun K hK => ?_); go_simp; refine hK _ ?_; clear hK K)
  have HBd : Hid (Below w8.heap.size w8 wd) := Lib.hid (by rw [hwd.out]; exact below_dr1 (Below.refl _ _))
  clear hS hwd
  have HBw : Hid (Below w7.heap.size w7 wd) := Lib.hid (below_tr HB8.out.1 HBd.out)
  have HBW : Hid (Below w.heap.size w wd) := Lib.hid (below_tr HB7.out HBw.out)
  have hsl : w7.heap.size < w8.heap.size := HB8.out.2.1.lt
  replace hsl := Lib.hid hsl
  obtain ⟨w6, e6⟩ : ∃ w6, wd.alloc (.cells #[.int .i64 0, .string ⟨#[]⟩, .int .i64 0, .string ⟨#[]⟩, .slice none 0 0] 73) = w6 := ⟨_, rfl⟩
  have HB6 : Hid (Below w7.heap.size w7 w6 ∧ BoxN w6 wd.heap.size [.int .i64 0, .string ⟨#[]⟩, .int .i64 0, .string ⟨#[]⟩, .slice none 0 0] 73 ∧ Below w.heap.size w w6 ∧ w6.heap[w7.heap.size]? = w8.heap[w7.heap.size]?) := Lib.hid <| by
    rw [← e6]
    exact ⟨below_tr HBw.out (below1 _ _), boxN_alloc _ _ _, below_tr HBW.out (below1 _ _), ((below1 wd _).block _ (Nat.lt_of_lt_of_le hsl.out HBd.out.size)).trans (HBd.out.block _ hsl.out)⟩
  have HSZ6 : Hid (wd.heap.size ≤ w6.heap.size) := Lib.hid (by rw [← e6]; simp)
  refine ordR_l rfl (fun K hK => ?_)
  go_simp
  refine hK _ _ ⟨fun _ => ⟨HB6.out.2.2.1.block B hBl, HB6.out.2.2.2⟩, ?_⟩
  clear hK K e6
  refine ordR_l rfl (fun K hK => ?_)
  refine wp_append_lies _ (.tmp 129) (.tmp 132) 33 rfl L 73 i0 _ 5 72 Tryz.underlying33 hi9 hz90 hz91 hz92 rfl (by decide) (.slice va n vc) n xs rfl (ownsRow_below HROW.out HB6.out.2.2.1) ⟨wd.heap.size, 0, none⟩ 1 1 [.int .i64 0, .string ⟨#[]⟩, .int .i64 0, .string ⟨#[]⟩, .slice none 0 0] rfl rfl (World.news_of_block (cs := #[.int .i64 0, .string ⟨#[]⟩, .int .i64 0, .string ⟨#[]⟩, .slice none 0 0]) (t := 73) (fr := (0, 0)) HB6.out.2.1) (by intro u hu; simp only [List.mem_cons, List.not_mem_nil, or_false] at hu; rcases hu with rfl | rfl | rfl | rfl | rfl <;> rfl) (by decide) (by unfold maxLen; omega) (by omega) (Nat.le_trans hLw HB6.out.2.2.1.size) _ rfl ?_
  intro g9 c9 w9 hown9 hgrow9 hat9 hlt9
  have HG9 : Hid (g9 ≠ B ∧ g9 ≠ w7.heap.size ∧ w9.heap[B]? = w.heap[B]? ∧ w9.heap[w7.heap.size]? = w8.heap[w7.heap.size]?) := Lib.hid <| by
    have q1 := HB7.out.size
    have q2 := hsl.out
    have q3 := HBd.out.size
    have q4 := HSZ6.out
    refine ⟨?_, ?_, ?_, ?_⟩
    · rcases hat9 with h1 | h1
      · exact (HAW.out _ h1).1
      · omega
    · rcases hat9 with h1 | h1
      · have := (HAW.out _ h1).2
        omega
      · omega
    · exact (hgrow9.block B (by omega) (fun e => (HAW.out _ e.symm).1 rfl)).trans (HB6.out.2.2.1.block B hBl)
    · exact (hgrow9.block _ (by omega) (fun e => by have := (HAW.out _ e.symm).2; omega)).trans HB6.out.2.2.2
  have H9 := Lib.hid (HNX.out w7 w6 _ g9 c9 _ HB7.out HB6.out.1 HDC.out (row_fill hown9 hlen (.int .i64 k) (.string nm) (.int .i64 op) (.string ev) (.slice a nn c)) (grown_set (grown_set (grown_set (grown_set (grown_set hgrow9 hat9 _ _) hat9 _ _) hat9 _ _) hat9 _ _) hat9 _ _) hat9)
  have HOWN := Lib.hid hown9
  clear hown9 hgrow9 hat9 hlt9 HNX
  have hidx0 : (n : Int) < ((n : Int) + 1) := by omega
  have hidx1 : (0 : Int) ≤ (n : Int) := by omega
  have hidx2 : n < n + 1 := by omega
  refine hK _ _ ⟨fun h => absurd rfl h, ?_⟩
  clear hK K
  refine ordR_nil ?_
  iterate 4 (refine ordF_q _ (fun w' K hK => (by go_simp; exact hK)) (fun K hK => ?_); go_simp; refine hK _ ?_; clear hK K)
  obtain ⟨c0, c1, c2, c3, c4, d0, d1, d2, d3, d4⟩ := last5 HOWN.out hlen
  obtain ⟨W5, e5⟩ : ∃ W5, (((((w9.setCell ⟨g9, n * 5, none⟩ (.int .i64 k)).setCell ⟨g9, n * 5 + 1, none⟩ (.string nm)).setCell ⟨g9, n * 5 + 2, none⟩ (.int .i64 op)).setCell ⟨g9, n * 5 + 3, none⟩ (.string ev)).setCell ⟨g9, n * 5 + 4, none⟩ (.slice a nn c)) = W5 := ⟨_, rfl⟩
  rw [e5] at H9
  have HE5 := Lib.hid e5
  clear e5
  have HB5 : Hid (W5.heap[B]? = w.heap[B]?) := Lib.hid H9.out.1
  refine ordF_end (fun K hK => ?_) (fun K hK => ?_)
  · have e5 := HE5.out
    go_simp
    refine hK _ _ ?_
    clear hK K c0 c1 c2 c3 c4 d0 d1 d2 d3 d4
    obtain ⟨b0, f0⟩ := HSW.out W5 HB5.out
    try rw [e5]
    clear e5
    go_simp
    clear b0 f0
    go_wp2_with fail
    go_ret
    exact ⟨rfl, H9.out.2.1, H9.out.2.2⟩
  · obtain ⟨b0, f0⟩ := HSW.out w9 HG9.out.2.2.1
    go_simp
    obtain ⟨WB, eB⟩ : ∃ WB, w9.setCell ⟨B, 10, none⟩ (.slice (some ⟨g9, 0, none⟩) (n + 1) c9) = WB := ⟨_, rfl⟩
    have hkB : WB.heap[g9]? = w9.heap[g9]? := by rw [← eB]; exact set_other _ HG9.out.1
    have HOB := Lib.hid (ownsRow_to HOWN.out (w' := WB) (fun g hg => by obtain rfl : g9 = g := Option.some.inj hg; exact hkB))
    refine hK _ _ ?_
    clear hK K c0 c1 c2 c3 c4 d0 d1 d2 d3 d4 b0 f0 hkB
    try rw [eB]
    have HEB := Lib.hid eB
    clear eB
    obtain ⟨c0, c1, c2, c3, c4, d0, d1, d2, d3, d4⟩ := last5 HOB.out hlen
    have HCM : Hid ((((((WB.setCell ⟨g9, n * 5, none⟩ (.int .i64 k)).setCell ⟨g9, n * 5 + 1, none⟩ (.string nm)).setCell ⟨g9, n * 5 + 2, none⟩ (.int .i64 op)).setCell ⟨g9, n * 5 + 3, none⟩ (.string ev)).setCell ⟨g9, n * 5 + 4, none⟩ (.slice a nn c)) = W5.setCell ⟨B, 10, none⟩ (.slice (some ⟨g9, 0, none⟩) (n + 1) c9)) := Lib.hid (by
      have hne : B ≠ g9 := Ne.symm HG9.out.1
      rw [← HEB.out, ← HE5.out, set_comm hne, set_comm hne, set_comm hne, set_comm hne, set_comm hne])
    go_simp
    rw [HCM.out]
    clear c0 c1 c2 c3 c4 d0 d1 d2 d3 d4
    go_wp2_with fail
    go_ret
    exact ⟨rfl, H9.out.2.1, H9.out.2.2⟩
set_option maxHeartbeats 4000000 in
set_option maxRecDepth 100000 in
theorem rput_one6 (L B M : Nat) (K : Nat → Prop) (out : List PkgT) (p : SP) (vo : Value) (v : Fin 7 → Value) (vf : Value) (x : ByteArray) (hx : x.size ≤ 1099511627776) (d : DepT) (hd : depParse x = (d, 0)) (hn : (p.L 6).length ≤ 1000000) (w : World) (h : RdR X w L B M K out p true vo v vf) :
    Calls Tryz.prog 57 #[.pointer (some ⟨B, 0, none⟩), .string ⟨#[83, 117, 112]⟩, .string x] w fun e w' => e = .returned (.int .i64 0) ∧ Below L w w' ∧ ∃ K' v', RdR X w' L B M K' out (p.add 6 d) true vo v' vf := by
  obtain ⟨xs, hrow, hhas⟩ := h.cur.rows 6
  obtain ⟨va, vc, hva⟩ := ownsRow_slice hrow
  have hBl := h.box.lt
  have hLw : L ≤ w.heap.size := Nat.le_trans h.outs.lB (Nat.le_of_lt hBl)
  have HC := Lib.hid (rdparse_c x hx w)
  rw [hd] at HC
  have hlen := hrow.1
  have HNX := Lib.hid (rput_fin h 6 hrow hhas d)
  have HROW := Lib.hid hrow
  have HB := Lib.hid h.box
  have HSW : Hid (∀ W : World, W.heap[B]? = w.heap[B]? → W.cell? ⟨B, 11, none⟩ = some (.slice va (p.L 6).length vc) ∧ W.frozen? ⟨B, 11, none⟩ = false) := Lib.hid fun W hW => ⟨(HB.out.to hW).cell (by rw [← hva]; exact rbox_at vo p.name p.evr p.arch p.vendor v vf (.bool true) 6), (HB.out.to hW).frozen _⟩
  have HAW : Hid (∀ x, (v 6).ownBlock = some x → x ≠ B ∧ x < w.heap.size) := Lib.hid fun x hx => ⟨(h.cur.away (some 6) x hx).1, (hrow.lt x hx).2⟩
  obtain ⟨i0, hi9, hz90, hz91, hz92⟩ := info_parts info63p
  rw [hva] at HNX HROW HAW
  clear h hrow hhas hva hd
  generalize (p.L 6).length = n at *
  go_enter Tryz.func57, Tryz.ntmps57
  go_wp2_with fail
  refine HC.out.mono ?_
  rintro e w7 ⟨hb7, k, nm, op, ev, a, nn, c, q, rfl, hq, _⟩
  obtain ⟨rfl, hdc⟩ := hq rfl
  have HB7 := Lib.hid hb7
  have HDC := Lib.hid hdc
  clear hdc hb7 HC hq
  go_upto_region 33 with fail
  obtain ⟨w8, e8⟩ : ∃ w8, w7.alloc (.cells #[.int .i64 k, .string nm, .int .i64 op, .string ev, .slice a nn c] 73) = w8 := ⟨_, rfl⟩
  have HB8 : Hid (Below w7.heap.size w7 w8 ∧ BoxN w8 w7.heap.size [.int .i64 k, .string nm, .int .i64 op, .string ev, .slice a nn c] 73 ∧ Below w.heap.size w w8) := Lib.hid <| by
    rw [← e8]
    exact ⟨below1 _ _, boxN_alloc _ _ _, below_tr HB7.out (below1 _ _)⟩
  rw [e8]
  clear e8
  have HS8 : Hid (∀ W : World, W.heap[B]? = w.heap[B]? ∧ W.heap[w7.heap.size]? = w8.heap[w7.heap.size]? → W.cell? ⟨B, 11, none⟩ = some (.slice va n vc) ∧ W.cell? ⟨w7.heap.size, 0, none⟩ = some (.int .i64 k) ∧ W.cell? ⟨w7.heap.size, 1, none⟩ = some (.string nm) ∧ W.cell? ⟨w7.heap.size, 2, none⟩ = some (.int .i64 op) ∧ W.cell? ⟨w7.heap.size, 3, none⟩ = some (.string ev) ∧ W.cell? ⟨w7.heap.size, 4, none⟩ = some (.slice a nn c)) := Lib.hid fun W hW => by
    have h1 := HB8.out.2.1.to hW.2
    exact ⟨(HSW.out W hW.1).1, h1.cell (j := 0) rfl, h1.cell (j := 1) rfl, h1.cell (j := 2) rfl, h1.cell (j := 3) rfl, h1.cell (j := 4) rfl⟩
  refine wp_region_two (fun W => W.heap[B]? = w.heap[B]? ∧ W.heap[w7.heap.size]? = w8.heap[w7.heap.size]?) 8 [(true, 0), (true, 1), (true, 2), (true, 3), (true, 4), (true, 5), (true, 6), (false, 7), (false, 8)] [9, 11, 12, 13] 10 14 (by kernel_rfl) (by kernel_rfl) (fun _ _ d _ _ h => by cases d <;> exact h) ⟨HB8.out.2.2.block B hBl, rfl⟩ ?_
  intro wd hwd hS
  simp only [ordOps, List.map_cons, List.map_nil, Array.getD_eq_getD_getElem?, List.getElem?_toArray, List.getElem?_cons_succ, List.getElem?_cons_zero, Option.getD_some]
  iterate 7 (refine ordR_q rfl _ (fun w' hS' K hK => (by obtain ⟨y0, y1, y2, y3, y4, y5⟩ := HS8.out w' hS'; clear hS'; go_simp; exact hK)) (fun K hK => ?_); go_simp; refine hK _ ?_; clear hK K)
  have HBd : Hid (Below w8.heap.size w8 wd) := Lib.hid (by rw [hwd.out]; exact below_dr1 (Below.refl _ _))
  clear hS hwd
  have HBw : Hid (Below w7.heap.size w7 wd) := Lib.hid (below_tr HB8.out.1 HBd.out)
  have HBW : Hid (Below w.heap.size w wd) := Lib.hid (below_tr HB7.out HBw.out)
  have hsl : w7.heap.size < w8.heap.size := HB8.out.2.1.lt
  replace hsl := Lib.hid hsl
  obtain ⟨w6, e6⟩ : ∃ w6, wd.alloc (.cells #[.int .i64 0, .string ⟨#[]⟩, .int .i64 0, .string ⟨#[]⟩, .slice none 0 0] 73) = w6 := ⟨_, rfl⟩
  have HB6 : Hid (Below w7.heap.size w7 w6 ∧ BoxN w6 wd.heap.size [.int .i64 0, .string ⟨#[]⟩, .int .i64 0, .string ⟨#[]⟩, .slice none 0 0] 73 ∧ Below w.heap.size w w6 ∧ w6.heap[w7.heap.size]? = w8.heap[w7.heap.size]?) := Lib.hid <| by
    rw [← e6]
    exact ⟨below_tr HBw.out (below1 _ _), boxN_alloc _ _ _, below_tr HBW.out (below1 _ _), ((below1 wd _).block _ (Nat.lt_of_lt_of_le hsl.out HBd.out.size)).trans (HBd.out.block _ hsl.out)⟩
  have HSZ6 : Hid (wd.heap.size ≤ w6.heap.size) := Lib.hid (by rw [← e6]; simp)
  refine ordR_l rfl (fun K hK => ?_)
  go_simp
  refine hK _ _ ⟨fun _ => ⟨HB6.out.2.2.1.block B hBl, HB6.out.2.2.2⟩, ?_⟩
  clear hK K e6
  refine ordR_l rfl (fun K hK => ?_)
  refine wp_append_lies _ (.tmp 144) (.tmp 147) 33 rfl L 73 i0 _ 5 72 Tryz.underlying33 hi9 hz90 hz91 hz92 rfl (by decide) (.slice va n vc) n xs rfl (ownsRow_below HROW.out HB6.out.2.2.1) ⟨wd.heap.size, 0, none⟩ 1 1 [.int .i64 0, .string ⟨#[]⟩, .int .i64 0, .string ⟨#[]⟩, .slice none 0 0] rfl rfl (World.news_of_block (cs := #[.int .i64 0, .string ⟨#[]⟩, .int .i64 0, .string ⟨#[]⟩, .slice none 0 0]) (t := 73) (fr := (0, 0)) HB6.out.2.1) (by intro u hu; simp only [List.mem_cons, List.not_mem_nil, or_false] at hu; rcases hu with rfl | rfl | rfl | rfl | rfl <;> rfl) (by decide) (by unfold maxLen; omega) (by omega) (Nat.le_trans hLw HB6.out.2.2.1.size) _ rfl ?_
  intro g9 c9 w9 hown9 hgrow9 hat9 hlt9
  have HG9 : Hid (g9 ≠ B ∧ g9 ≠ w7.heap.size ∧ w9.heap[B]? = w.heap[B]? ∧ w9.heap[w7.heap.size]? = w8.heap[w7.heap.size]?) := Lib.hid <| by
    have q1 := HB7.out.size
    have q2 := hsl.out
    have q3 := HBd.out.size
    have q4 := HSZ6.out
    refine ⟨?_, ?_, ?_, ?_⟩
    · rcases hat9 with h1 | h1
      · exact (HAW.out _ h1).1
      · omega
    · rcases hat9 with h1 | h1
      · have := (HAW.out _ h1).2
        omega
      · omega
    · exact (hgrow9.block B (by omega) (fun e => (HAW.out _ e.symm).1 rfl)).trans (HB6.out.2.2.1.block B hBl)
    · exact (hgrow9.block _ (by omega) (fun e => by have := (HAW.out _ e.symm).2; omega)).trans HB6.out.2.2.2
  have H9 := Lib.hid (HNX.out w7 w6 _ g9 c9 _ HB7.out HB6.out.1 HDC.out (row_fill hown9 hlen (.int .i64 k) (.string nm) (.int .i64 op) (.string ev) (.slice a nn c)) (grown_set (grown_set (grown_set (grown_set (grown_set hgrow9 hat9 _ _) hat9 _ _) hat9 _ _) hat9 _ _) hat9 _ _) hat9)
  have HOWN := Lib.hid hown9
  clear hown9 hgrow9 hat9 hlt9 HNX
  have hidx0 : (n : Int) < ((n : Int) + 1) := by omega
  have hidx1 : (0 : Int) ≤ (n : Int) := by omega
  have hidx2 : n < n + 1 := by omega
  refine hK _ _ ⟨fun h => absurd rfl h, ?_⟩
  clear hK K
  refine ordR_nil ?_
  iterate 4 (refine ordF_q _ (fun w' K hK => (by go_simp; exact hK)) (fun K hK => ?_); go_simp; refine hK _ ?_; clear hK K)
  obtain ⟨c0, c1, c2, c3, c4, d0, d1, d2, d3, d4⟩ := last5 HOWN.out hlen
  obtain ⟨W5, e5⟩ : ∃ W5, (((((w9.setCell ⟨g9, n * 5, none⟩ (.int .i64 k)).setCell ⟨g9, n * 5 + 1, none⟩ (.string nm)).setCell ⟨g9, n * 5 + 2, none⟩ (.int .i64 op)).setCell ⟨g9, n * 5 + 3, none⟩ (.string ev)).setCell ⟨g9, n * 5 + 4, none⟩ (.slice a nn c)) = W5 := ⟨_, rfl⟩
  rw [e5] at H9
  have HE5 := Lib.hid e5
  clear e5
  have HB5 : Hid (W5.heap[B]? = w.heap[B]?) := Lib.hid H9.out.1
  refine ordF_end (fun K hK => ?_) (fun K hK => ?_)
  · have e5 := HE5.out
    go_simp
    refine hK _ _ ?_
    clear hK K c0 c1 c2 c3 c4 d0 d1 d2 d3 d4
    obtain ⟨b0, f0⟩ := HSW.out W5 HB5.out
    try rw [e5]
    clear e5
    go_simp
    clear b0 f0
    go_wp2_with fail
    go_ret
    exact ⟨rfl, H9.out.2.1, H9.out.2.2⟩
  · obtain ⟨b0, f0⟩ := HSW.out w9 HG9.out.2.2.1
    go_simp
    obtain ⟨WB, eB⟩ : ∃ WB, w9.setCell ⟨B, 11, none⟩ (.slice (some ⟨g9, 0, none⟩) (n + 1) c9) = WB := ⟨_, rfl⟩
    have hkB : WB.heap[g9]? = w9.heap[g9]? := by rw [← eB]; exact set_other _ HG9.out.1
    have HOB := Lib.hid (ownsRow_to HOWN.out (w' := WB) (fun g hg => by obtain rfl : g9 = g := Option.some.inj hg; exact hkB))
    refine hK _ _ ?_
    clear hK K c0 c1 c2 c3 c4 d0 d1 d2 d3 d4 b0 f0 hkB
    try rw [eB]
    have HEB := Lib.hid eB
    clear eB
    obtain ⟨c0, c1, c2, c3, c4, d0, d1, d2, d3, d4⟩ := last5 HOB.out hlen
    have HCM : Hid ((((((WB.setCell ⟨g9, n * 5, none⟩ (.int .i64 k)).setCell ⟨g9, n * 5 + 1, none⟩ (.string nm)).setCell ⟨g9, n * 5 + 2, none⟩ (.int .i64 op)).setCell ⟨g9, n * 5 + 3, none⟩ (.string ev)).setCell ⟨g9, n * 5 + 4, none⟩ (.slice a nn c)) = W5.setCell ⟨B, 11, none⟩ (.slice (some ⟨g9, 0, none⟩) (n + 1) c9)) := Lib.hid (by
      have hne : B ≠ g9 := Ne.symm HG9.out.1
      rw [← HEB.out, ← HE5.out, set_comm hne, set_comm hne, set_comm hne, set_comm hne, set_comm hne])
    go_simp
    rw [HCM.out]
    clear c0 c1 c2 c3 c4 d0 d1 d2 d3 d4
    go_wp2_with fail
    go_ret
    exact ⟨rfl, H9.out.2.1, H9.out.2.2⟩
end Go.Proofs.YtjcefgjgjhdbpaaGreatDoor
