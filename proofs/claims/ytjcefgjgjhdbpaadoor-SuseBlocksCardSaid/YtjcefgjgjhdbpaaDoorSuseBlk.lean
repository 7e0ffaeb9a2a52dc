/-
  Values in a block, and one by one. Plain words; no conditions beyond those typed.
-/
import Derived.Test.YtjcefgjgjhdbpaaDoorSuseJoin
namespace Go.Proofs.YtjcefgjgjhdbpaaDoor
set_option linter.unusedVariables false
set_option linter.unusedSimpArgs false

theorem layB_10 : layB 10 = false := by decide
/-- A tag of plain bytes. -/
def PlainT (t : Wd) : Prop := t ≠ [] ∧ ∀ c ∈ t, c ≠ 10 ∧ c ≠ 58 ∧ layB c = false
theorem tagScan_at : ∀ (t r : Wd), (∀ c ∈ t, c ≠ 10 ∧ c ≠ 58 ∧ layB c = false) → tagScan (t ++ 58 :: r) = some (t, r)
  | [], r, _ => rfl
  | c :: t, r, h => by
    obtain ⟨_, h1, h2⟩ := h c (by simp)
    rw [List.cons_append, tagScan, if_neg (by rw [h2]; decide), if_neg h1, tagScan_at t r (fun d hd => h d (List.mem_cons_of_mem _ hd))]
    rfl
theorem tagOf_at (c : UInt8) {t : Wd} (r : Wd) (h : PlainT t) : tagOf (c :: (t ++ 58 :: r)) = some (t, r) := by
  unfold tagOf
  rw [show (c :: (t ++ 58 :: r)).drop 1 = t ++ 58 :: r from rfl, tagScan_at t r h.2]
  simp only
  rw [if_neg h.1]
theorem dropW_idem (p : UInt8 → Bool) (l : Wd) : (l.dropWhile p).dropWhile p = l.dropWhile p := by
  induction l with
  | nil => rfl
  | cons c l ih =>
    rw [List.dropWhile_cons]
    split
    · exact ih
    · rename_i h
      rw [List.dropWhile_cons, if_neg h]
theorem dropW_nil {p : UInt8 → Bool} : ∀ {l : Wd}, l.dropWhile p = [] ↔ ∀ c ∈ l, p c = true
  | [] => by simp
  | c :: l => by
    rw [List.dropWhile_cons]
    by_cases h : p c = true
    · rw [if_pos h, dropW_nil]
      constructor
      · intro h1 d hd
        rcases List.mem_cons.1 hd with rfl | hd
        · exact h
        · exact h1 d hd
      · exact fun h1 d hd => h1 d (List.mem_cons_of_mem _ hd)
    · rw [if_neg h]
      exact ⟨fun h1 => (by cases h1), fun h1 => absurd (h1 c (by simp)) h⟩
/-- A text of which something is left has something to trim. -/
theorem trimT_nil {l : Wd} : trimT l = [] ↔ ∀ c ∈ l, layB c = true := by
  unfold trimT
  constructor
  · intro h c hc
    rw [dropW_nil] at h
    by_cases hb : layB c = true
    · exact hb
    · refine h c ?_
      rw [List.mem_reverse]
      have : ∀ l : Wd, c ∈ l → c ∈ l.dropWhile layB := by
        intro l
        induction l with
        | nil => intro h; cases h
        | cons d l ih =>
          intro h
          rw [List.dropWhile_cons]
          split
          · rename_i hd
            rcases List.mem_cons.1 h with rfl | h
            · exact absurd hd hb
            · exact ih h
          · exact h
      exact this _ (List.mem_reverse.2 hc)
  · intro h
    have : l.reverse.dropWhile layB = [] := by
      rw [dropW_nil]
      intro c hc
      exact h c (List.mem_reverse.1 hc)
    rw [this]
    rfl
theorem trimT_mem {l : Wd} {c : UInt8} (h : c ∈ trimT l) : c ∈ l := by
  unfold trimT at h
  have h1 := (List.dropWhile_sublist layB).subset h
  rw [List.mem_reverse] at h1
  have h2 := (List.dropWhile_sublist layB).subset h1
  exact List.mem_reverse.1 h2
theorem trimT_head {l : Wd} {c : UInt8} {r : Wd} (h : trimT l = c :: r) : layB c = false := by
  unfold trimT at h
  generalize (l.reverse.dropWhile layB).reverse = m at h
  induction m with
  | nil => cases h
  | cons d m ih =>
    rw [List.dropWhile_cons] at h
    split at h
    · exact ih h
    · rename_i h1
      injection h with h2 _
      rw [← h2]
      simpa using h1
/-- A value that may stand in a block. -/
def PlainV (v : Wd) : Prop := (∀ c ∈ v, c ≠ 10) ∧ v.head? ≠ some 45 ∧ trimT v ≠ []
/-- The lines, one by one; in a block. -/
def lineV (t v : Wd) : Wd := 61 :: (t ++ 58 :: (32 :: v))
def openV (t : Wd) : Wd := 43 :: (t ++ 58 :: [])
def closeV (t : Wd) : Wd := 45 :: (t ++ 58 :: [])
theorem step_one {t v : Wd} (ht : PlainT t) (hp : t ≠ pkgW) (st : SSt) (hc : st.cur.isSome = true) : stepN (lineV t v) st = goR none (putS st t v) := by
  unfold stepN
  have h1 : ¬ (trimT (lineV t v) = [] ∨ (lineV t v).head? = some 35) := by
    rintro (h | h)
    · have := trimT_nil.1 h 61 (by simp [lineV])
      revert this
      decide
    · injection h with h
      revert h
      decide
  rw [if_neg h1]
  unfold lineV
  rw [tagOf_at 61 _ ht]
  simp only
  rw [if_pos (by rfl)]
  unfold oneS
  rw [if_neg hp]
  cases e : st.cur with
  | none => rw [e] at hc; cases hc
  | some p => rfl
theorem step_blk {t v : Wd} (hv : PlainV v) (st : SSt) : stepB t v st = goR (some t) (putS st t v) := by
  unfold stepB
  have h1 : closesB v t = false := by
    unfold closesB
    split
    · rename_i h _
      exact absurd h hv.2.1
    · rfl
  rw [if_neg (by rw [h1]; decide), if_neg hv.2.2]
theorem step_open {t : Wd} (ht : PlainT t) (st : SSt) (hc : st.cur.isSome = true) : stepN (openV t) st = .go (some t) st := by
  unfold stepN
  have h1 : ¬ (trimT (openV t) = [] ∨ (openV t).head? = some 35) := by
    rintro (h | h)
    · have := trimT_nil.1 h 43 (by simp [openV])
      revert this
      decide
    · injection h with h
      revert h
      decide
  rw [if_neg h1]
  unfold openV
  rw [tagOf_at 43 _ ht]
  simp only
  rw [if_neg (by simp), if_pos ⟨by rfl, by rfl, hc⟩]
theorem step_close {t : Wd} (ht : PlainT t) (st : SSt) : stepB t (closeV t) st = .go none st := by
  unfold stepB
  have h1 : closesB (closeV t) t = true := by
    unfold closesB closeV
    rw [tagOf_at 45 _ ht]
    show (t == t && trimT [] == []) = true
    simp [trimT]
  rw [if_pos h1]
theorem put_some {st st' : SSt} {t v : Wd} (h : putS st t v = .ok st') (hc : st.cur.isSome = true) : st'.cur.isSome = true := by
  obtain ⟨_, _, h3⟩ := put_ok h
  cases e : st.cur with
  | none => rw [e] at hc; cases hc
  | some p =>
    obtain ⟨q, _, h4⟩ := h3 p e
    rw [h4]
    rfl
theorem run_block {t : Wd} (ht : PlainT t) (hp : t ≠ pkgW) : ∀ (vs : List Wd) (st : SSt), st.cur.isSome = true → (∀ v ∈ vs, PlainV v) →
    runS none (vs.map (lineV t)) st = runS (some t) (vs ++ [closeV t]) st
  | [], st, hc, _ => by
    rw [List.map_nil, List.nil_append, runS_cons]
    show _ = match stepB t (closeV t) st with
      | .err e => ([], e)
      | .go m' st' => runS m' [] st'
    rw [step_close ht]
  | v :: vs, st, hc, hv => by
    rw [List.map_cons, List.cons_append, runS_cons, runS_cons]
    show (match stepN (lineV t v) st with
      | .err e => ([], e)
      | .go m' st' => runS m' _ st') = match stepB t v st with
      | .err e => ([], e)
      | .go m' st' => runS m' _ st'
    rw [step_one ht hp st hc, step_blk (hv v (by simp))]
    cases e : putS st t v with
    | err x => rfl
    | ok st' => exact run_block ht hp vs st' (put_some e hc) (fun u hu => hv u (List.mem_cons_of_mem _ hu))
/-- The head of both texts. -/
def headL : Wd := [61, 80, 107, 103, 58, 32, 97, 32, 49, 32, 49, 32, 110, 111, 97, 114, 99, 104]
def oneText (t : Wd) (vs : List Wd) : Wd := headL ++ 10 :: vs.flatMap fun v => lineV t v ++ [10]
def twoText (t : Wd) (vs : List Wd) : Wd := headL ++ 10 :: (openV t ++ 10 :: ((vs.flatMap fun v => v ++ [10]) ++ (closeV t ++ [10])))
theorem lines_flat (f : Wd → Wd) : ∀ (vs : List Wd) (r : Wd), (∀ v ∈ vs, ∀ c ∈ f v, c ≠ 10) → linesB ((vs.flatMap fun v => f v ++ [10]) ++ r) = vs.map f ++ linesB r
  | [], r, _ => rfl
  | v :: vs, r, h => by
    obtain ⟨h1, h2⟩ := line_at (f v) ((vs.flatMap fun v => f v ++ [10]) ++ r) (h v (by simp))
    rw [List.flatMap_cons, List.append_assoc, List.append_assoc, List.singleton_append, linesB_cons (by simp), h1, h2, lines_flat f vs r (fun u hu => h u (List.mem_cons_of_mem _ hu))]
    rfl
theorem lines_one {p r : Wd} (h : ∀ c ∈ p, c ≠ 10) : linesB (p ++ 10 :: r) = p :: linesB r := by
  obtain ⟨h1, h2⟩ := line_at p r h
  rw [linesB_cons (by simp), h1, h2]
theorem tag_no10 {t : Wd} (ht : PlainT t) (c : UInt8) (r : Wd) (hc : c ≠ 10) (hr : ∀ d ∈ r, d ≠ 10) : ∀ d ∈ c :: (t ++ 58 :: r), d ≠ 10 := by
  intro d hd
  rcases List.mem_cons.1 hd with rfl | hd
  · exact hc
  · rcases List.mem_append.1 hd with hd | hd
    · exact (ht.2 d hd).1
    · rcases List.mem_cons.1 hd with rfl | hd
      · decide
      · exact hr d hd
theorem head_step : stepN headL ⟨[], none⟩ = .go none ⟨[], some (newSP [97] [49] [49] [110, 111, 97, 114, 99, 104])⟩ := by rfl
theorem flat_len (f : Wd → Wd) (k : Nat) : ∀ vs : List Wd, (∀ v ∈ vs, (f v).length ≤ k) → (vs.flatMap f).length ≤ vs.length * k
  | [], _ => by simp
  | v :: vs, h => by
    rw [List.flatMap_cons, List.length_append, List.length_cons, Nat.succ_mul]
    have h1 := h v (by simp)
    have h2 := flat_len f k vs (fun u hu => h u (List.mem_cons_of_mem _ hu))
    omega
theorem size_mkB (w : Wd) : (mkB w).size = w.length := rfl
/-- The law. -/
theorem blocks_law {t : Wd} (ht : PlainT t) (h3 : t.length = 3) (hp : t ≠ pkgW) {vs : List Wd} (hn : vs.length ≤ 40) (hv : ∀ v ∈ vs, PlainV v ∧ v.length ≤ 500) :
    suseParse (mkB (oneText t vs)) = suseParse (mkB (twoText t vs)) := by
  have hhead : ∀ c ∈ headL, c ≠ 10 := by decide
  have hl1 : (oneText t vs).length ≤ 40000 := by
    unfold oneText
    have := flat_len (fun v => lineV t v ++ [10]) 507 vs (fun v h => by
      have := (hv v h).2
      simp only [lineV, List.length_append, List.length_cons, List.length_nil]
      omega)
    simp only [headL, List.length_append, List.length_cons, List.length_nil]
    omega
  have hl2 : (twoText t vs).length ≤ 40000 := by
    unfold twoText
    have := flat_len (fun v => v ++ [10]) 501 vs (fun v h => by
      have := (hv v h).2
      simp only [List.length_append, List.length_cons, List.length_nil]
      omega)
    simp only [headL, openV, closeV, List.length_append, List.length_cons, List.length_nil]
    omega
  unfold suseParse
  rw [size_mkB, size_mkB, if_neg (by omega), if_neg (by omega), bs_mkB, bs_mkB]
  have e1 : linesB (oneText t vs) = headL :: vs.map (lineV t) := by
    unfold oneText
    rw [lines_one hhead]
    have := lines_flat (lineV t) vs [] (fun v h c hc => tag_no10 ht 61 _ (by decide) (fun d hd => by
      rcases List.mem_cons.1 hd with rfl | hd
      · decide
      · exact (hv v h).1.1 d hd) c hc)
    rw [List.append_nil] at this
    rw [this, linesB_nil, List.append_nil]
  have e2 : linesB (twoText t vs) = headL :: openV t :: (vs ++ [closeV t]) := by
    unfold twoText
    have h := lines_flat (fun v => v) vs (closeV t ++ [10]) (fun v h c hc => (hv v h).1.1 c hc)
    rw [List.map_id'] at h
    have h2 := lines_one (p := closeV t) (r := []) (tag_no10 ht 45 [] (by decide) (by simp))
    rw [lines_one hhead, lines_one (p := openV t) (tag_no10 ht 43 [] (by decide) (by simp)), h, h2]
    rfl
  rw [e1, e2, runS_cons, runS_cons]
  have hs : stepS none headL ⟨[], none⟩ = .go none ⟨[], some (newSP [97] [49] [49] [110, 111, 97, 114, 99, 104])⟩ := head_step
  rw [hs]
  simp only
  rw [runS_cons]
  have ho : stepS none (openV t) ⟨[], some (newSP [97] [49] [49] [110, 111, 97, 114, 99, 104])⟩ = .go (some t) ⟨[], some (newSP [97] [49] [49] [110, 111, 97, 114, 99, 104])⟩ := step_open ht _ rfl
  rw [ho]
  exact run_block ht hp vs _ rfl (fun v h => (hv v h).1)
end Go.Proofs.YtjcefgjgjhdbpaaDoor
