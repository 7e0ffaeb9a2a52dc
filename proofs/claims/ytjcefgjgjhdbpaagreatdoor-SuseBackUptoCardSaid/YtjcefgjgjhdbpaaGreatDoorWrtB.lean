/-
  Packages are written: lines, tags, places. Helper text; the conditions are those typed.
  Packages are written. Helper text; the conditions are those typed.
-/
import Derived.Test.YtjcefgjgjhdbpaaGreatDoorPrC
import Derived.Test.YtjcefgjgjhdbpaaGreatDoorDepNum
import Derived.Test.YtjcefgjgjhdbpaaGreatDoorPutE
import Derived.Test.YtjcefgjgjhdbpaaGreatDoorChkD
import Derived.Test.YtjcefgjgjhdbpaaGreatDoorBoxes
namespace Go.Proofs.YtjcefgjgjhdbpaaGreatDoor
set_option linter.unusedVariables false
set_option linter.unusedSimpArgs false
open Go.RowKit Go.Shelf Go.Maps

/-- Lines, joined. -/
def joinL (ls : List Wd) : Wd := ls.flatMap fun v => v ++ [10]
theorem joinL_append (a b : List Wd) : joinL (a ++ b) = joinL a ++ joinL b := by simp [joinL]
theorem joinL_one (x : Wd) : joinL [x] = x ++ [10] := by simp [joinL]
theorem joinL_snoc (a : List Wd) (x : Wd) : joinL (a ++ [x]) = joinL a ++ (x ++ [10]) := by rw [joinL_append, joinL_one]
theorem joinL_pre (a b : List Wd) : (joinL a).length ≤ (joinL (a ++ b)).length := by rw [joinL_append, List.length_append]; omega
theorem write_join (ps : List PkgT) : writeB ps = joinL (ps.flatMap linesP) := rfl
/-- One line is written. -/
theorem line_c (B b : Nat) (A : List Wd) (x : Wd) (s : ByteArray) (hs : bs s = x ++ [10]) (hlen : (joinL (A ++ [x])).length ≤ 140737488355328) (w : World) (h : Bld B b (joinL A) w) (hB : B ≤ w.heap.size) :
    Calls Tryz.prog 30 #[.pointer (some ⟨b, 0, none⟩), .string s] w fun e w' => e = .returned (.tuple #[.int .i64 s.size, .nilIface]) ∧ Bld B b (joinL (A ++ [x])) w' ∧ BMv B b w w' := by
  rw [joinL_snoc] at hlen ⊢
  rw [← hs]
  refine wrS_c B b _ s w h ?_ hB
  rw [← bs_length, hs]
  rwa [List.length_append] at hlen
/-- The tags, in the order of the lists. -/
def tagS (j : Nat) : ByteArray := mkB (tagsW.getD j [])
theorem tagS_bs (j : Nat) : bs (tagS j) = tagsW.getD j [] := bs_mkB _
theorem tags_c (w : World) : Calls Tryz.prog 31 #[] w fun e w' => e = .returned (.slice (some ⟨w.heap.size, 0, none⟩) 7 7) ∧ Below w.heap.size w w' ∧ BoxN w' w.heap.size ((List.range 7).map fun j => .string (tagS j)) 9 := by
  go_enter Tryz.func31, Tryz.ntmps31
  go_wp2
  go_ret
  exact ⟨rfl, below1 _ _, boxN_alloc _ _ _⟩
theorem qlace0 (B : Nat) (w : World) : Calls Tryz.prog 36 #[.pointer (some ⟨B, 0, none⟩)] w fun e w' => e = .returned (.pointer (some ⟨B, 4, none⟩)) ∧ w' = w := by
  go_enter Tryz.func36, Tryz.ntmps36
  go_wp2_with fail
  go_ret
  exact ⟨rfl, rfl⟩
theorem qlace1 (B : Nat) (w : World) : Calls Tryz.prog 37 #[.pointer (some ⟨B, 0, none⟩)] w fun e w' => e = .returned (.pointer (some ⟨B, 5, none⟩)) ∧ w' = w := by
  go_enter Tryz.func37, Tryz.ntmps37
  go_wp2_with fail
  go_ret
  exact ⟨rfl, rfl⟩
theorem qlace2 (B : Nat) (w : World) : Calls Tryz.prog 38 #[.pointer (some ⟨B, 0, none⟩)] w fun e w' => e = .returned (.pointer (some ⟨B, 6, none⟩)) ∧ w' = w := by
  go_enter Tryz.func38, Tryz.ntmps38
  go_wp2_with fail
  go_ret
  exact ⟨rfl, rfl⟩
theorem qlace3 (B : Nat) (w : World) : Calls Tryz.prog 39 #[.pointer (some ⟨B, 0, none⟩)] w fun e w' => e = .returned (.pointer (some ⟨B, 7, none⟩)) ∧ w' = w := by
  go_enter Tryz.func39, Tryz.ntmps39
  go_wp2_with fail
  go_ret
  exact ⟨rfl, rfl⟩
theorem qlace4 (B : Nat) (w : World) : Calls Tryz.prog 40 #[.pointer (some ⟨B, 0, none⟩)] w fun e w' => e = .returned (.pointer (some ⟨B, 8, none⟩)) ∧ w' = w := by
  go_enter Tryz.func40, Tryz.ntmps40
  go_wp2_with fail
  go_ret
  exact ⟨rfl, rfl⟩
theorem qlace5 (B : Nat) (w : World) : Calls Tryz.prog 41 #[.pointer (some ⟨B, 0, none⟩)] w fun e w' => e = .returned (.pointer (some ⟨B, 9, none⟩)) ∧ w' = w := by
  go_enter Tryz.func41, Tryz.ntmps41
  go_wp2_with fail
  go_ret
  exact ⟨rfl, rfl⟩
theorem qlace6 (B : Nat) (w : World) : Calls Tryz.prog 42 #[.pointer (some ⟨B, 0, none⟩)] w fun e w' => e = .returned (.pointer (some ⟨B, 10, none⟩)) ∧ w' = w := by
  go_enter Tryz.func42, Tryz.ntmps42
  go_wp2_with fail
  go_ret
  exact ⟨rfl, rfl⟩
/-- A list's place. -/
theorem qlace_c (i : Fin 7) (B : Nat) (w : World) : Calls Tryz.prog (36 + i.val) #[.pointer (some ⟨B, 0, none⟩)] w fun e w' => e = .returned (.pointer (some ⟨B, 4 + i.val, none⟩)) ∧ w' = w := by
  match i with
  | 0 => exact qlace0 B w
  | 1 => exact qlace1 B w
  | 2 => exact qlace2 B w
  | 3 => exact qlace3 B w
  | 4 => exact qlace4 B w
  | 5 => exact qlace5 B w
  | 6 => exact qlace6 B w
theorem tagFn_at (i : Fin 7) : tagFn (tagS i.val) = some (.func (.func (36 + i.val)) #[] #[]) := by
  match i with
  | 0 => rfl
  | 1 => rfl
  | 2 => rfl
  | 3 => rfl
  | 4 => rfl
  | 5 => rfl
  | 6 => rfl
/-- The lines of the j-th tag. -/
def tagL (p : PkgT) (j : Nat) : List Wd := if h : j < 7 then (depsL p ⟨j, h⟩).map fun d => lineV (tagsW.getD j []) (printB d) else []
theorem tags_lines (p : PkgT) : (List.finRange 7).flatMap (fun i => (depsL p i).map fun d => lineV (tagI i) (printB d)) = (List.range 7).flatMap (tagL p) := by
  rfl
theorem range_snoc (f : Nat → List Wd) (j : Nat) : (List.range (j + 1)).flatMap f = (List.range j).flatMap f ++ f j := by
  rw [List.range_succ, List.flatMap_append]
  simp
theorem range_pre (f : Nat → List Wd) {j n : Nat} (h : j ≤ n) : ∃ r, (List.range n).flatMap f = (List.range j).flatMap f ++ r := by
  induction n with
  | zero => exact ⟨[], by rw [Nat.le_zero.1 h]; simp⟩
  | succ n ih =>
    by_cases hj : j = n + 1
    · exact ⟨[], by rw [hj]; simp⟩
    · obtain ⟨r, hr⟩ := ih (by omega)
      exact ⟨r ++ f n, by rw [range_snoc, hr, List.append_assoc]⟩
/-- The head of a package's lines. -/
def pkgL (p : PkgT) : List Wd := [lineV pkgW (valP p)]
def vendL (p : PkgT) : List Wd := if p.vendor.size = 0 then [] else [lineV vndW (bs p.vendor)]
def fileL (p : PkgT) : List Wd := p.files.map fun f => lineV flsW (bs f)
theorem lines_parts (p : PkgT) : linesP p = pkgL p ++ vendL p ++ (List.range 7).flatMap (tagL p) ++ fileL p := by
  unfold linesP pkgL vendL fileL
  rw [tags_lines]
  simp [List.append_assoc]
theorem joinL_cut {N : Nat} {A X : List Wd} (h : (joinL (A ++ X)).length ≤ N) {Y Z : List Wd} (e : X = Y ++ Z) : (joinL (A ++ Y)).length ≤ N := by
  rw [e, ← List.append_assoc] at h
  exact Nat.le_trans (joinL_pre _ _) h
theorem text_size {l : Wd} (h : (parse l).isSome = true) : l.length ≤ 60 := by
  unfold parse at h
  split at h
  · cases h
  · rename_i h1
    unfold okText at h1
    simp at h1
    omega
theorem sizes_of {p : PkgT} (h : nameB p.name = true ∧ (parse (bs p.evr)).isSome = true ∧ archB p.arch = true ∧ vendB p.vendor = true) : p.name.size ≤ 60 ∧ p.evr.size ≤ 60 ∧ p.arch.size ≤ 200 ∧ p.vendor.size ≤ 200 := by
  obtain ⟨h1, h2, h3, h4⟩ := h
  refine ⟨(name_parts h1).2.1, by have := text_size h2; rwa [bs_length] at this, ?_, ?_⟩
  · unfold archB at h3
    simp only [Bool.and_eq_true, decide_eq_true_eq] at h3
    omega
  · unfold vendB at h4
    simp only [Bool.and_eq_true, decide_eq_true_eq] at h4
    omega
theorem pkgc_at (nm ev ar ve : ByteArray) (v : Fin 7 → Value) (vf : Value) (i : Fin 7) : (pkgCells nm ev ar ve v vf)[4 + i.val]? = some (v i) := by
  match i with
  | 0 => rfl
  | 1 => rfl
  | 2 => rfl
  | 3 => rfl
  | 4 => rfl
  | 5 => rfl
  | 6 => rfl
theorem tagS_size {j : Nat} (h : j < 7) : (tagS j).size ≤ 3 := by
  have : ∀ j < 7, (tagS j).size ≤ 3 := by decide
  exact this j h
set_option maxRecDepth 100000 in
/-- What the map says of the j-th tag. -/
theorem look_tag {w : World} {M n : Nat} {F : Value → Option Value} (h : MapAt Tryz.prog 9 w M n F) (hF : ∀ t, F (.string t) = tagFn t) (j : Fin 7) : (Instr.lookup 38 (.map (some M)) (.string (tagS j.val)) false).run Tryz.prog w = .ok (.func (.func (36 + j.val)) #[] #[]) w := by
  have h1 := h.run_look keyed9 Tryz.underlying38 (z := .nilFunc) (by first | kernel_rfl | simp [go_sem]) (key := .string (tagS j.val)) (key9 (by have := tagS_size j.isLt; unfold maxLen; omega))
  rw [hF, tagFn_at j] at h1
  exact h1
/-- The dependencies of a list, one by one. -/
theorem deps_at {w : World} {S : Nat → Prop} {p : PkgT} {i : Fin 7} {va : Option Addr} {vc : Nat} (h : DepsV w S (p.n i) (p.deps i) (.slice va (p.n i) vc)) (hck : ∀ d ∈ depsL p i, depCheck d = 0) (hS : ∀ b, S b → b < w.heap.size) :
    ∀ k, k < p.n i → ∃ b' off', va = some ⟨b', off', none⟩ ∧ b' < w.heap.size ∧ ∃ (d : DepT) (cs : List Value), (depsL p i)[k]? = some d ∧ depCheck d = 0 ∧ DepC w S d cs ∧ CellsAt w b' (off' + k * 5) cs := by
  intro k hk
  obtain ⟨a, c, e, _, h2⟩ := h
  injection e with e1 e2 e3
  subst e1 e3
  obtain ⟨b, off, ea, hb, hi⟩ := h2 (by omega)
  obtain ⟨cs, h3, h4⟩ := hi ⟨k, hk⟩
  have h5 : (depsL p i)[k]? = some (p.deps i ⟨k, hk⟩) := by simp [depsL, hk]
  exact ⟨b, off, ea, hS b hb, _, cs, h5, hck _ (List.mem_of_getElem? h5), h3, h4⟩
/-- The texts of a list, one by one. -/
theorem strs_at {w : World} {S : Nat → Prop} {l : List ByteArray} {va : Option Addr} {vc : Nat} (h : StrsV w S l (.slice va l.length vc)) (hck : ∀ f ∈ l, nameB f = true) (hS : ∀ b, S b → b < w.heap.size) :
    ∀ k, k < l.length → ∃ b' off', va = some ⟨b', off', none⟩ ∧ b' < w.heap.size ∧ ∃ f : ByteArray, l[k]? = some f ∧ f.size ≤ 60 ∧ w.cell? ⟨b', off' + k, none⟩ = some (.string f) := by
  intro k hk
  obtain ⟨a, c, e, _, _, h2⟩ := h
  injection e with e1 e2 e3
  subst e1 e3
  obtain ⟨b, off, ea, hb, hi⟩ := h2 (by intro e; rw [e] at hk; exact absurd hk (Nat.not_lt_zero _))
  exact ⟨b, off, ea, hS b hb, l[k], List.getElem?_eq_getElem hk, (name_parts (hck _ (List.getElem_mem hk))).2.1, hi k hk⟩
theorem take_map {α : Type} (f : α → Wd) (l : List α) {k : Nat} {d : α} (h : l[k]? = some d) : (l.map f).take (k + 1) = (l.map f).take k ++ [f d] := by
  rw [List.take_add_one, List.getElem?_map, h]
  rfl
theorem dep_cells {w : World} {S : Nat → Prop} {d : DepT} {cs : List Value} (h : DepC w S d cs) : ∃ k nm op ev a n c, cs = [.int .i64 k, .string nm, .int .i64 op, .string ev, .slice a n c] := by
  cases d with
  | mk k nm op ev n args =>
    obtain ⟨a, c, rfl, _⟩ := h
    exact ⟨_, _, _, _, _, _, _, rfl⟩
theorem line_len {A : List Wd} {t v : Wd} {N : Nat} (h : (joinL (A ++ [lineV t v])).length ≤ N) : v.length ≤ N := by
  rw [joinL_snoc] at h
  unfold lineV at h
  simp only [List.length_append, List.length_cons] at h
  omega
end Go.Proofs.YtjcefgjgjhdbpaaGreatDoor
namespace Go.Proofs.YtjcefgjgjhdbpaaGreatDoor
set_option linter.unusedVariables false
set_option linter.unusedSimpArgs false
open Go.RowKit Go.Shelf Go.Maps

theorem MapAt.bmv {k : TypeId} {w w' : World} {B b m n : Nat} {f : Value → Option Value} (h : MapAt Tryz.prog k w m n f) (hm : BMv B b w w') (hb : m ≠ b) : MapAt Tryz.prog k w' m n f := by
  obtain ⟨D, ⟨es, clock, h1, h2⟩, hf⟩ := h
  exact ⟨D, ⟨es, clock, hm.block m _ h1 hb (.inr (by rintro ⟨cs, fz, e⟩; cases e)), h2⟩, hf⟩
theorem bs_five (a b c d : ByteArray) : bs ((⟨#[61, 80, 107, 103, 58, 32]⟩ : ByteArray) ++ a ++ (⟨#[32]⟩ : ByteArray) ++ b ++ (⟨#[32]⟩ : ByteArray) ++ c ++ (⟨#[32]⟩ : ByteArray) ++ d ++ (⟨#[10]⟩ : ByteArray)) = lineV pkgW (bs a ++ 32 :: (bs b ++ 32 :: (bs c ++ 32 :: bs d))) ++ [10] := by
  simp only [pbs_app]
  show [61, 80, 107, 103, 58, 32] ++ bs a ++ [32] ++ bs b ++ [32] ++ bs c ++ [32] ++ bs d ++ [10] = _
  unfold lineV pkgW
  simp [List.append_assoc]
theorem bs_vnd (a : ByteArray) : bs ((⟨#[61, 86, 110, 100, 58, 32]⟩ : ByteArray) ++ a ++ (⟨#[10]⟩ : ByteArray)) = lineV vndW (bs a) ++ [10] := by
  simp only [pbs_app]
  show [61, 86, 110, 100, 58, 32] ++ bs a ++ [10] = _
  unfold lineV vndW
  simp [List.append_assoc]
theorem bs_fls (a : ByteArray) : bs ((⟨#[61, 70, 108, 115, 58, 32]⟩ : ByteArray) ++ a ++ (⟨#[10]⟩ : ByteArray)) = lineV flsW (bs a) ++ [10] := by
  simp only [pbs_app]
  show [61, 70, 108, 115, 58, 32] ++ bs a ++ [10] = _
  unfold lineV flsW
  simp [List.append_assoc]
theorem bs_tag (t a : ByteArray) : bs ((⟨#[61]⟩ : ByteArray) ++ t ++ (⟨#[58, 32]⟩ : ByteArray) ++ a ++ (⟨#[10]⟩ : ByteArray)) = lineV (bs t) (bs a) ++ [10] := by
  simp only [pbs_app]
  show [61] ++ bs t ++ [58, 32] ++ bs a ++ [10] = _
  unfold lineV
  simp [List.append_assoc]
set_option maxHeartbeats 8000000 in
set_option maxRecDepth 100000 in
theorem write_good (ps : List PkgT) (v : Value) (S : Nat → Prop) (w : World) (h : PkgsV w S ps v) (hS : ∀ b, S b → b < w.heap.size) (hck : ∀ p ∈ ps, pkgCheck p = 0) (hn : ps.length ≤ 200) (hlen : (writeB ps).length ≤ 140737488355328) :
    Calls Tryz.prog 10 #[v] w fun e w' => e = .returned (.tuple #[.string (mkB (writeB ps)), .int .i64 0]) ∧ Below w.heap.size w w' := by
  obtain ⟨a, c, rfl, hb, hp⟩ := h
  rw [write_join] at hlen ⊢
  have HS := Lib.hid hS
  obtain ⟨n, hnn⟩ : ∃ n, ps.length = n := ⟨_, rfl⟩
  have HPK : Hid (∀ i, i < n → ∃ lb off, a = some ⟨lb, off, none⟩ ∧ lb < w.heap.size ∧ ∃ (p : PkgT) (pa : Fin 7 → Option Addr) (pc : Fin 7 → Nat) (pf : Option Addr) (pg : Nat), ps[i]? = some p ∧ pkgCheck p = 0 ∧ PkgV w S p (fun i => .slice (pa i) (p.n i) (pc i)) (.slice pf p.files.length pg) ∧ CellsAt w lb (off + i * 12) (pkgCells p.name p.evr p.arch p.vendor (fun i => .slice (pa i) (p.n i) (pc i)) (.slice pf p.files.length pg))) := Lib.hid fun i hi => by
    rw [← hnn] at hi
    obtain ⟨lb, off, ea, hlb, k1⟩ := hp (by intro e; rw [e] at hi; exact absurd hi (Nat.not_lt_zero _))
    obtain ⟨v1, f1, d1, g1⟩ := k1 i hi
    obtain ⟨xa, xc, rfl⟩ := d1.slices
    obtain ⟨xf, xg, hf, _⟩ := d1.files
    subst hf
    exact ⟨lb, off, ea, hS lb hlb, ps[i], xa, xc, xf, xg, List.getElem?_eq_getElem hi, hck _ (List.getElem_mem hi), d1, g1⟩
  have HALL : Hid (∀ i p, ps[i]? = some p → (ps.take (i + 1)).flatMap linesP = (ps.take i).flatMap linesP ++ linesP p ∧ (joinL ((ps.take i).flatMap linesP ++ linesP p)).length ≤ 140737488355328) := Lib.hid fun i p hi => by
    have e1 : ps.take (i + 1) = ps.take i ++ [p] := by rw [List.take_add_one, hi]; rfl
    have e2 : (ps.take (i + 1)).flatMap linesP = (ps.take i).flatMap linesP ++ linesP p := by rw [e1, List.flatMap_append]; simp
    refine ⟨e2, ?_⟩
    rw [← e2]
    have e3 : ps.flatMap linesP = (ps.take (i + 1)).flatMap linesP ++ (ps.drop (i + 1)).flatMap linesP := by rw [← List.flatMap_append, List.take_append_drop]
    rw [e3] at hlen
    exact Nat.le_trans (joinL_pre _ _) hlen
  have HEND : Hid ((ps.take n).flatMap linesP = ps.flatMap linesP) := Lib.hid (by rw [← hnn, List.take_length])
  rw [hnn] at hn ⊢
  clear hS hp hck hlen hnn
  have g1 : ¬ (200 : Int) < (n : Int) := by omega
  go_enter Tryz.func10, Tryz.ntmps10
  go_wp2_with fail
  go_loopw [27] (fun vi wr => ∃ i : Nat, vi = .int .i64 i ∧ i ≤ n ∧ Hid (Below w.heap.size w wr)) (fun vi _ => n - (intOf vi).toNat)
  case atStart => exact ⟨0, rfl, Nat.zero_le _, Below.refl _ _⟩
  case round =>
    obtain ⟨i, rfl, hin, HT⟩ := hrel
    by_cases hlt : i < n
    · have hi1 : (i : Int) < (n : Int) := by omega
      obtain ⟨lb, off, rfl, hlb, p, pa, pc, pf, pg, hpi, hpc, hv, hcs⟩ := HPK.out i hlt
      have HC : Hid (∀ W : World, Below w.heap.size w W → _) := Lib.hid fun W hb => check_c p pa pc pf p.files.length pg S W (hv.below hb) (fun b h' => Nat.lt_of_lt_of_le (HS.out b h') hb.size)
      rw [hpc] at HC
      have hc2 := hcs.keep (HT.out.block lb hlb)
      have q0 : wr.cell? ⟨lb, off + i * 12, none⟩ = some (.string p.name) := hc2 0 _ rfl
      have q1 := hc2 1 _ rfl
      have q2 := hc2 2 _ rfl
      have q3 := hc2 3 _ rfl
      have q4 := hc2 4 _ rfl
      have q5 := hc2 5 _ rfl
      have q6 := hc2 6 _ rfl
      have q7 := hc2 7 _ rfl
      have q8 := hc2 8 _ rfl
      have q9 := hc2 9 _ rfl
      have q10 := hc2 10 _ rfl
      have q11 := hc2 11 _ rfl
      clear hc2 hcs hv hpi hpc
      generalize p.files.length = nf at *
      go_wp2_with fail
      refine (HC.out _ (HT.out.trans ((below1 wr _).mono HT.out.size))).mono ?_
      rintro e w5 ⟨rfl, hb5⟩
      have HB5 : Hid (Below w.heap.size w w5) := Lib.hid ((HT.out.trans ((below1 wr _).mono HT.out.size)).trans (hb5.mono (by simp; have := HT.out.size; omega)))
      clear hb5 q0 q1 q2 q3 q4 q5 q6 q7 q8 q9 q10 q11
      go_wp2_with fail
      go_roundw
      case rel => exact ⟨i + 1, by go_num, by omega, HB5⟩
      case measure => simp [intOf]; omega
    · have hi1 : ¬ (i : Int) < (n : Int) := by omega
      go_wp2_with fail
      obtain ⟨b, hbb⟩ : ∃ b, wr.heap.size = b := ⟨_, rfl⟩
      obtain ⟨w4, h4⟩ : ∃ w4, wr.alloc (.cells #[.pointer none, .slice none 0 0] 62) = w4 := ⟨_, rfl⟩
      have H4 : Hid (Below w.heap.size w w4 ∧ Bld b b [] w4 ∧ w.heap.size ≤ b ∧ b < w4.heap.size) := Lib.hid (by
        rw [← h4, ← hbb]
        exact ⟨HT.out.trans ((below1 wr _).mono HT.out.size), bld_new wr, HT.out.size, by simp⟩)
      rw [h4, hbb]
      clear h4 hbb HT hi1 hlt hin
      refine (tagMap_c w4).mono ?_
      rintro e w5 ⟨rfl, hb5, F, hmap, hF⟩
      obtain ⟨M, hM⟩ : ∃ M, w4.heap.size = M := ⟨_, rfl⟩
      rw [hM] at hmap ⊢
      have H5 : Hid (Below w.heap.size w w5 ∧ Bld b b [] w5 ∧ w.heap.size ≤ b ∧ b < M ∧ M < w5.heap.size ∧ MapAt Tryz.prog 9 w5 M 7 F) := Lib.hid ⟨below_tr H4.out.1 hb5, H4.out.2.1.below hb5, H4.out.2.2.1, by have := H4.out.2.2.2; omega, hmap.lt, hmap⟩
      have HF := Lib.hid hF
      have HLOW : Hid (∀ W, BMv b b w5 W → Below w.heap.size w W) := Lib.hid fun W hW => H5.out.1.trans ((hW.below (Nat.le_refl _) (by have := H5.out; omega)).mono H5.out.2.2.1)
      clear hb5 hmap hF H4 hM
      go_wp2_with fail
      go_loopw [40] (fun vi wr => ∃ i : Nat, vi = .int .i64 i ∧ i ≤ n ∧ Hid (Bld b b (joinL ((ps.take i).flatMap linesP)) wr ∧ BMv b b w5 wr)) (fun vi _ => n - (intOf vi).toNat)
      case atStart => exact ⟨0, rfl, Nat.zero_le _, Lib.hid ⟨H5.out.2.1, BMv.refl _ _ _⟩⟩
      case round =>
        obtain ⟨i, rfl, hin, HT⟩ := hrel
        by_cases hlt : i < n
        · have hi1 : (i : Int) < (n : Int) := by omega
          obtain ⟨lb, off, rfl, hlb, p, pa, pc, pf, pg, hpi, hpc, hv, hcs⟩ := HPK.out i hlt
          have HP := Lib.hid (And.intro hv (check_parts hpc))
          have HSIZ := Lib.hid (sizes_of ⟨HP.out.2.1, HP.out.2.2.1, HP.out.2.2.2.1, HP.out.2.2.2.2.1⟩)
          obtain ⟨hsn, hbd⟩ := HALL.out i p hpi
          rw [lines_parts] at hsn hbd
          have HSN := Lib.hid hsn
          have HBD := Lib.hid hbd
          clear hsn hbd
          generalize (ps.take i).flatMap linesP = D at HT HSN HBD
          have hc2 := hcs.keep ((HLOW.out _ HT.out.2).block lb hlb)
          have q0 : wr.cell? ⟨lb, off + i * 12, none⟩ = some (.string p.name) := hc2 0 _ rfl
          have q1 := hc2 1 _ rfl
          have q2 := hc2 2 _ rfl
          have q3 := hc2 3 _ rfl
          have q4 := hc2 4 _ rfl
          have q5 := hc2 5 _ rfl
          have q6 := hc2 6 _ rfl
          have q7 := hc2 7 _ rfl
          have q8 := hc2 8 _ rfl
          have q9 := hc2 9 _ rfl
          have q10 := hc2 10 _ rfl
          have q11 := hc2 11 _ rfl
          clear hc2 hcs hv hpi hpc
          have HAL : Hid (∀ W, wr.alloc (.cells #[.string p.name, .string p.evr, .string p.arch, .string p.vendor, .slice (pa 0) (p.n 0) (pc 0), .slice (pa 1) (p.n 1) (pc 1), .slice (pa 2) (p.n 2) (pc 2), .slice (pa 3) (p.n 3) (pc 3), .slice (pa 4) (p.n 4) (pc 4), .slice (pa 5) (p.n 5) (pc 5), .slice (pa 6) (p.n 6) (pc 6), .slice pf p.files.length pg] 36) = W → Below wr.heap.size wr W ∧ BoxN W wr.heap.size (pkgCells p.name p.evr p.arch p.vendor (fun i => .slice (pa i) (p.n i) (pc i)) (.slice pf p.files.length pg)) 36 ∧ wr.heap.size < W.heap.size) := Lib.hid (by
            rintro W rfl
            exact ⟨below1 _ _, boxN_alloc _ _ _, by simp⟩)
          go_upto_region 15 with fail
          obtain ⟨wA, hA⟩ : ∃ wA, wr.alloc (.cells #[.string p.name, .string p.evr, .string p.arch, .string p.vendor, .slice (pa 0) (p.n 0) (pc 0), .slice (pa 1) (p.n 1) (pc 1), .slice (pa 2) (p.n 2) (pc 2), .slice (pa 3) (p.n 3) (pc 3), .slice (pa 4) (p.n 4) (pc 4), .slice (pa 5) (p.n 5) (pc 5), .slice (pa 6) (p.n 6) (pc 6), .slice pf p.files.length pg] 36) = wA := ⟨_, rfl⟩
          have HA := Lib.hid (HAL.out wA hA)
          rw [hA]
          obtain ⟨pb, hpb⟩ : ∃ pb, wr.heap.size = pb := ⟨_, rfl⟩
          have HB0 : Hid (Bld b b (joinL D) wA ∧ BMv b b w5 wA) := Lib.hid ⟨HT.out.1.below HA.out.1, HT.out.2.trans (BMv.of_below HA.out.1)⟩
          have HW : Hid (∀ W, BMv b b wA W → Below w.heap.size w W ∧ BoxN W pb (pkgCells p.name p.evr p.arch p.vendor (fun i => .slice (pa i) (p.n i) (pc i)) (.slice pf p.files.length pg)) 36 ∧ MapAt Tryz.prog 9 W M 7 F ∧ b ≤ W.heap.size) := Lib.hid fun W hW => by
            have h5 := H5.out
            have h6 := HT.out.2.size
            have h7 := HA.out
            have h8 := HB0.out.2.trans hW
            rw [hpb] at h7
            exact ⟨HLOW.out W h8, hW.box h7.2.1 (by omega) (by decide), h5.2.2.2.2.2.bmv h8 (by omega), by have := h8.size; omega⟩
          rw [hpb]
          have p1 := (HW.out wA (BMv.refl _ _ _)).2.1.cell (j := 1) rfl
          clear hA HAL q0 q1 q2 q3 q4 q5 q6 q7 q8 q9 q10 q11 HA HT hpb
          obtain ⟨x, hx⟩ : ∃ x, li 45 (bs p.evr) = x := ⟨_, rfl⟩
          have HSA : Hid (∀ W : World, W.heap[pb]? = wA.heap[pb]? → W.cell? ⟨pb, 1, none⟩ = some (.string p.evr)) := Lib.hid fun W hW => ((HW.out wA (BMv.refl _ _ _)).2.1.to hW).cell (j := 1) rfl
          cases x
          case' none =>
            have HLS := Lib.hid (last_no p.evr hx (by have := HSIZ.out; omega) wA)
            have HVR : Hid (∃ vr re : ByteArray, p.evr = vr ∧ (⟨#[45]⟩ : ByteArray) = re ∧ bs vr = (verRel (bs p.evr)).1 ∧ bs re = (verRel (bs p.evr)).2 ∧ vr.size ≤ 60 ∧ re.size ≤ 60) := Lib.hid ⟨_, _, rfl, rfl, by unfold verRel; rw [hx], by unfold verRel; rw [hx], HSIZ.out.2.1, by decide⟩
            clear hx
            go_wp2_with fail
            refine HLS.out.mono ?_
            rintro e w6 ⟨rfl, rfl⟩
            clear HLS
            go_upto_region 19 with fail
            obtain ⟨wB, hwB⟩ : ∃ wB, wA = wB := ⟨_, rfl⟩
            have HWB : Hid (Bld b b (joinL D) wB ∧ BMv b b wA wB) := Lib.hid (by rw [← hwB]; exact ⟨HB0.out.1, BMv.refl _ _ _⟩)
            obtain ⟨vr, re, hvr, hre, hve⟩ := HVR.out
            rw [hvr, hre]
            conv => arg 5; rw [hwB]
            have HVE := Lib.hid hve
            clear hwB hvr hre hve HVR p1
          case' some j =>
            have HLS := Lib.hid (last_yes p.evr j hx (by have := HSIZ.out; omega) wA)
            have HVR : Hid (∃ vr re : ByteArray, p.evr.extract 0 j = vr ∧ p.evr.extract (j + 1) p.evr.size = re ∧ bs vr = (verRel (bs p.evr)).1 ∧ bs re = (verRel (bs p.evr)).2 ∧ vr.size ≤ 60 ∧ re.size ≤ 60) := Lib.hid ⟨_, _, rfl, rfl, by unfold verRel; rw [hx]; exact bs_head _ _, by unfold verRel; rw [hx]; exact bs_drop _ _, by
              rw [← bs_length, bs_head, List.length_take, bs_length]
              have := HSIZ.out
              omega, by
              rw [← bs_length, bs_drop, List.length_drop, bs_length]
              have := HSIZ.out
              omega⟩
            have hjl : j < p.evr.size := by
              obtain ⟨h1, _⟩ := li_some.1 hx
              rwa [bs_length] at h1
            have hj0 : j ≤ p.evr.size := Nat.le_of_lt hjl
            have hwj : IntKind.i64.wrap ((j : Int) + 1) = (j : Int) + 1 := by
              have h1 := HSIZ.out.2.1
              rw [IntKind.wrap_i64]
              omega
            have hwj0 : (0 : Int) ≤ (j : Int) + 1 := by omega
            have hwj1 : (j : Int) + 1 ≤ (p.evr.size : Int) := by omega
            have hwj2 : ((j : Int) + 1).toNat = j + 1 := by omega
            have hjs : p.evr.size ≤ 60 := HSIZ.out.2.1
            clear hx
            go_wp2_with fail
            refine HLS.out.mono ?_
            rintro e w6 ⟨rfl, rfl⟩
            clear HLS
            go_upto_region 18 with fail
            clear p1
            refine wp_region_ord (fun W => W.heap[pb]? = wA.heap[pb]?) 99 [(true, 0), (true, 1), (true, 2), (true, 3), (true, 4), (true, 5), (true, 6), (true, 7), (true, 8), (false, 9), (false, 10)] (by kernel_rfl) (by kernel_rfl) (fun _ _ d _ _ h => by cases d <;> exact h) rfl ?_
            intro wq hwd hS
            simp only [ordOps, List.map_cons, List.map_nil, Array.getD_eq_getD_getElem?, List.getElem?_toArray, List.getElem?_cons_succ, List.getElem?_cons_zero, Option.getD_some]
            iterate 9 (refine wpOrd_q rfl _ (fun w' hS' K hK => (by have x0 := HSA.out w' hS'; clear hS'; go_simp; exact hK)) (fun K hK => ?_); go_simp; refine hK _ ?_; clear hK K)
            have HBd : Hid (Below wA.heap.size wA wq) := Lib.hid (by rw [hwd.out]; exact below_dr1 (Below.refl _ _))
            have HSd := Lib.hid hS
            clear hS hwd
            iterate 2 (refine wpOrd_l rfl (fun K hK => ?_); go_simp; refine hK _ _ ⟨fun _ => HSd.out, ?_⟩; clear hK K)
            refine wpOrd_nil ?_
            go_upto_region 19 with fail
            obtain ⟨wB, hwB⟩ : ∃ wB, wq = wB := ⟨_, rfl⟩
            have HWB : Hid (Bld b b (joinL D) wB ∧ BMv b b wA wB) := Lib.hid (by rw [← hwB]; exact ⟨HB0.out.1.below HBd.out, BMv.of_below HBd.out⟩)
            obtain ⟨vr, re, hvr, hre, hve⟩ := HVR.out
            rw [hvr, hre]
            conv => arg 5; rw [hwB]
            have HVE := Lib.hid hve
            clear hwB hvr hre hve HVR HBd HSd hjl hj0 hwj hwj0 hwj1 hwj2 hjs
          all_goals
            have HB1 := Lib.hid HB0.out.2
            clear HSA HB0
            have HX := Lib.hid (HW.out wB HWB.out.2)
            have HL1 := Lib.hid (line_c b b D (lineV pkgW (valP p)) ((⟨#[61, 80, 107, 103, 58, 32]⟩ : ByteArray) ++ p.name ++ (⟨#[32]⟩ : ByteArray) ++ vr ++ (⟨#[32]⟩ : ByteArray) ++ re ++ (⟨#[32]⟩ : ByteArray) ++ p.arch ++ (⟨#[10]⟩ : ByteArray)) (by rw [bs_five, HVE.out.1, HVE.out.2.1]; rfl) (joinL_cut HBD.out (Y := pkgL p) (Z := vendL p ++ (List.range 7).flatMap (tagL p) ++ fileL p) (by simp [List.append_assoc])) wB HWB.out.1 HX.out.2.2.2)
            have p0 := HX.out.2.1.cell (j := 0) rfl
            have p2 := HX.out.2.1.cell (j := 2) rfl
            have p3 := HX.out.2.1.cell (j := 3) rfl
            have z0 := HSIZ.out.1
            have z2 := HSIZ.out.2.2.1
            have z3 := HVE.out.2.2.1
            have z4 := HVE.out.2.2.2
            have y1 : ¬ 9223372036854775807 < 6 + p.name.size := by omega
            have y2 : ¬ 9223372036854775807 < 6 + p.name.size + 1 := by omega
            have y3 : ¬ 9223372036854775807 < 6 + p.name.size + 1 + vr.size := by omega
            have y4 : ¬ 9223372036854775807 < 6 + p.name.size + 1 + vr.size + 1 := by omega
            have y5 : ¬ 9223372036854775807 < 6 + p.name.size + 1 + vr.size + 1 + re.size := by omega
            have y6 : ¬ 9223372036854775807 < 6 + p.name.size + 1 + vr.size + 1 + re.size + 1 := by omega
            have y7 : ¬ 9223372036854775807 < 6 + p.name.size + 1 + vr.size + 1 + re.size + 1 + p.arch.size := by omega
            have y8 : ¬ 9223372036854775807 < 6 + p.name.size + 1 + vr.size + 1 + re.size + 1 + p.arch.size + 1 := by omega
            go_wp2_with fail
            refine HL1.out.mono ?_
            rintro e w6 ⟨rfl, hb6, hm6⟩
            have HX6 : Hid (Bld b b (joinL (D ++ pkgL p)) w6 ∧ BMv b b wA w6) := Lib.hid ⟨hb6, HWB.out.2.trans hm6⟩
            have p3 := (HW.out w6 HX6.out.2).2.1.cell (j := 3) rfl
            clear hb6 hm6 HL1 HX p0 p2 y1 y2 y3 y4 y5 y6 y7 y8 z0 z2 z3 z4 HWB
            obtain ⟨bv, hbv⟩ : ∃ bv, p.vendor.toList.isEmpty = bv := ⟨_, rfl⟩
            cases bv
            case' true =>
              have HVL : Hid (vendL p = []) := Lib.hid (by
                have h1 : (bs p.vendor).length = 0 := by rw [← bs_toList, List.isEmpty_iff.1 hbv]; rfl
                unfold vendL
                rw [if_pos (by rwa [bs_length] at h1)])
              go_upto_region 22 with fail
              have HX7 : Hid (Bld b b (joinL (D ++ pkgL p ++ vendL p)) w6 ∧ BMv b b wA w6) := Lib.hid (by rw [HVL.out, List.append_nil]; exact HX6.out)
              obtain ⟨w7, hw7⟩ : ∃ w7, w6 = w7 := ⟨_, rfl⟩
              rw [hw7] at HX7
              conv => arg 5; rw [hw7]
              clear HX6 HVL hw7 p3 hbv
            case' false =>
              have HVL : Hid (vendL p = [lineV vndW (bs p.vendor)]) := Lib.hid (by
                unfold vendL
                rw [if_neg (fun e => by
                  have h1 : p.vendor.toList = [] := by
                    rw [bs_toList]
                    exact List.eq_nil_of_length_eq_zero (by rw [bs_length]; exact e)
                  rw [h1] at hbv
                  cases hbv)])
              have HL2 := Lib.hid (line_c b b (D ++ pkgL p) (lineV vndW (bs p.vendor)) ((⟨#[61, 86, 110, 100, 58, 32]⟩ : ByteArray) ++ p.vendor ++ (⟨#[10]⟩ : ByteArray)) (bs_vnd _) (by
                rw [← HVL.out, List.append_assoc]
                exact joinL_cut HBD.out (Y := pkgL p ++ vendL p) (Z := (List.range 7).flatMap (tagL p) ++ fileL p) (by simp [List.append_assoc])) w6 HX6.out.1 (HW.out w6 HX6.out.2).2.2.2)
              have z0 := HSIZ.out.2.2.2
              have y1 : ¬ 9223372036854775807 < 6 + p.vendor.size := by omega
              have y2 : ¬ 9223372036854775807 < 6 + p.vendor.size + 1 := by omega
              go_wp2_with fail
              refine HL2.out.mono ?_
              rintro e w7 ⟨rfl, hb7, hm7⟩
              have HX7 : Hid (Bld b b (joinL (D ++ pkgL p ++ vendL p)) w7 ∧ BMv b b wA w7) := Lib.hid (by rw [HVL.out]; exact ⟨hb7, HX6.out.2.trans hm7⟩)
              clear hb7 hm7 HL2 z0 y1 y2 p3 hbv HX6 HVL
              go_upto_region 22 with fail
          all_goals
            go_wp2_with fail
            refine (tags_c w7).mono ?_
            rintro e w8 ⟨rfl, hb8, hx8⟩
            obtain ⟨T, hT⟩ : ∃ T, w7.heap.size = T := ⟨_, rfl⟩
            rw [hT] at hx8 ⊢
            have H8 : Hid (Bld b b (joinL (D ++ pkgL p ++ vendL p)) w8 ∧ BMv b b wA w8 ∧ BoxN w8 T ((List.range 7).map fun j => .string (tagS j)) 9 ∧ b < T) := Lib.hid ⟨HX7.out.1.below hb8, HX7.out.2.trans (BMv.of_below hb8), hx8, by have := HX7.out.1.lt; omega⟩
            clear hb8 hx8 HX7 hT
            have HBT : Hid ((joinL ((D ++ pkgL p ++ vendL p) ++ ((List.range 7).flatMap (tagL p) ++ fileL p))).length ≤ 140737488355328) := Lib.hid (by
              have h1 := HBD.out
              simp only [List.append_assoc] at h1 ⊢
              exact h1)
            have HSN2 : Hid ((ps.take (i + 1)).flatMap linesP = (D ++ pkgL p ++ vendL p) ++ ((List.range 7).flatMap (tagL p) ++ fileL p)) := Lib.hid (by
              have h1 := HSN.out
              simp only [List.append_assoc] at h1 ⊢
              exact h1)
            clear HBD HSN
            generalize D ++ pkgL p ++ vendL p = D2 at H8 HBT HSN2
            go_wp2_with fail
            go_loopw [85] (fun vj wr => ∃ j : Nat, vj = .int .i64 j ∧ j ≤ 7 ∧ Hid (Bld b b (joinL (D2 ++ (List.range j).flatMap (tagL p))) wr ∧ BMv b b w8 wr)) (fun vj _ => 7 - (intOf vj).toNat)
            case atStart => exact ⟨0, rfl, by omega, Lib.hid ⟨by simpa using H8.out.1, BMv.refl _ _ _⟩⟩
            case round =>
              obtain ⟨j, rfl, hj7, HT2⟩ := hrel
              by_cases hjt : j < 7
              · have hj1 : (j : Int) < 7 := by omega
                have HX := Lib.hid (HW.out _ (H8.out.2.1.trans HT2.out.2))
                have ct : wr.cell? ⟨T, j, none⟩ = some (.string (tagS j)) := (HT2.out.2.box H8.out.2.2.1 (by have := H8.out.2.2.2; omega) (by decide)).cell (by rw [List.getElem?_map, List.getElem?_range hjt]; rfl)
                have hl := look_tag HX.out.2.2.1 HF.out ⟨j, hjt⟩
                have hcf := call_place ⟨j, hjt⟩
                have hpl := qlace_c ⟨j, hjt⟩ pb wr
                have cl := HX.out.2.1.cell (pkgc_at p.name p.evr p.arch p.vendor (fun i => .slice (pa i) (p.n i) (pc i)) (.slice pf p.files.length pg) ⟨j, hjt⟩)
                have hnj : p.n ⟨j, hjt⟩ ≤ 140737488355328 := by
                  obtain ⟨_, _, _, h1, _⟩ := HP.out.1.deps ⟨j, hjt⟩
                  omega
                have HDV := Lib.hid (deps_at (HP.out.1.deps ⟨j, hjt⟩) (HP.out.2.2.2.2.2.1 ⟨j, hjt⟩) HS.out)
                have HTL : Hid (tagL p j = (depsL p ⟨j, hjt⟩).map fun d => lineV (bs (tagS j)) (printB d)) := Lib.hid (by
                  unfold tagL
                  rw [dif_pos hjt, tagS_bs])
                have HLN : Hid ((depsL p ⟨j, hjt⟩).length = p.n ⟨j, hjt⟩) := Lib.hid (by simp [depsL])
                have HB3 : Hid ((joinL ((D2 ++ (List.range j).flatMap (tagL p)) ++ tagL p j)).length ≤ 140737488355328) := Lib.hid (by
                  obtain ⟨r, hr⟩ := range_pre (tagL p) (j := j + 1) (n := 7) (by omega)
                  rw [List.append_assoc, ← range_snoc]
                  refine joinL_cut HBT.out (Z := r ++ fileL p) ?_
                  rw [hr, List.append_assoc])
                have HR3 : Hid (D2 ++ (List.range (j + 1)).flatMap (tagL p) = (D2 ++ (List.range j).flatMap (tagL p)) ++ (depsL p ⟨j, hjt⟩).map fun d => lineV (bs (tagS j)) (printB d)) := Lib.hid (by rw [range_snoc, HTL.out, List.append_assoc])
                have HTZ := Lib.hid (tagS_size hjt)
                rw [HTL.out] at HB3
                dsimp only at hl hcf hpl cl
                generalize (⟨j, hjt⟩ : Fin 7) = jj at *
                generalize D2 ++ (List.range j).flatMap (tagL p) = D3 at HT2 HB3 HR3
                generalize depsL p jj = DL at *
                generalize p.n jj = nj at *
                generalize pa jj = va at *
                generalize pc jj = vc at *
                generalize 4 + j = o at *
                generalize 36 + j = fn at *
                generalize tagS j = ts at *
                clear HTL
                go_wp2_with fail
                refine hpl.mono ?_
                rintro e w9 ⟨rfl, hw9⟩
                obtain rfl : wr = w9 := hw9.symm
                clear hw9
                go_wp2_with fail
                go_loopw [96] (fun vk wx => ∃ k : Nat, vk = .int .i64 k ∧ k ≤ nj ∧ Hid (Bld b b (joinL (D3 ++ (DL.map fun d => lineV (bs ts) (printB d)).take k)) wx ∧ BMv b b w8 wx)) (fun vk _ => nj - (intOf vk).toNat)
                case atStart => exact ⟨0, rfl, Nat.zero_le _, Lib.hid ⟨by simpa using HT2.out.1, HT2.out.2⟩⟩
                case round =>
                  clear hl hcf hpl cl ct
                  obtain ⟨k, rfl, hk, HT3⟩ := hrel
                  by_cases hkt : k < nj
                  · have hk1 : (k : Int) < (nj : Int) := by omega
                    obtain ⟨b', off', rfl, hb', d, cs, hdk, hdc, hdC, hcs⟩ := HDV.out k hkt
                    have HXK := Lib.hid (take_map (fun d => lineV (bs ts) (printB d)) DL hdk)
                    have HBK : Hid ((joinL ((D3 ++ (DL.map fun d => lineV (bs ts) (printB d)).take k) ++ [lineV (bs ts) (printB d)])).length ≤ 140737488355328) := Lib.hid (by
                      rw [List.append_assoc, ← HXK.out]
                      exact joinL_cut HB3.out (List.take_append_drop (k + 1) _).symm)
                    have HLW := Lib.hid (HW.out _ (H8.out.2.1.trans HT3.out.2)).1
                    have HDP : Hid (∀ W, Below w.heap.size w W → Calls Tryz.prog 32 #[.agg cs.toArray] W fun e w' => e = .returned (.tuple #[.string (mkB (printB d)), .int .i64 0]) ∧ Below W.heap.size W w') := Lib.hid fun W hW => dprint_c d cs S W (hdC.below hW) (fun x hx => Nat.lt_of_lt_of_le (HS.out x hx) hW.size) hdc (line_len HBK.out)
                    obtain ⟨k5, nm, op, ev, a', n', c', rfl⟩ := dep_cells hdC
                    have hc2 := hcs.keep (HLW.out.block b' hb')
                    have q0 : wr.cell? ⟨b', off' + k * 5, none⟩ = some (.int .i64 k5) := hc2 0 _ rfl
                    have q1 := hc2 1 _ rfl
                    have q2 := hc2 2 _ rfl
                    have q3 := hc2 3 _ rfl
                    have q4 := hc2 4 _ rfl
                    have HAL : Hid (∀ W, wr.alloc (.cells #[.int .i64 k5, .string nm, .int .i64 op, .string ev, .slice a' n' c'] 73) = W → Below wr.heap.size wr W) := Lib.hid (by
                      rintro W rfl
                      exact below1 _ _)
                    obtain ⟨st, hst⟩ : ∃ st, mkB (printB d) = st := ⟨_, rfl⟩
                    have HST : Hid (bs st = printB d ∧ st.size ≤ 140737488355328) := Lib.hid (by
                      have e1 : bs st = printB d := by rw [← hst, bs_mkB]
                      exact ⟨e1, by rw [← bs_length, e1]; exact line_len HBK.out⟩)
                    rw [hst] at HDP
                    clear hc2 hcs hdC hdk hdc hst
                    go_upto_region 28 with fail
                    obtain ⟨w9, h9⟩ : ∃ w9, wr.alloc (.cells #[.int .i64 k5, .string nm, .int .i64 op, .string ev, .slice a' n' c'] 73) = w9 := ⟨_, rfl⟩
                    have H9 : Hid (Below wr.heap.size wr w9 ∧ BoxN w9 wr.heap.size [.int .i64 k5, .string nm, .int .i64 op, .string ev, .slice a' n' c'] 73) := Lib.hid ⟨HAL.out w9 h9, by rw [← h9]; exact boxN_alloc _ _ _⟩
                    rw [h9]
                    clear h9 HAL q0 q1 q2 q3 q4
                    have q0 := H9.out.2.cell (j := 0) rfl
                    have q1 := H9.out.2.cell (j := 1) rfl
                    have q2 := H9.out.2.cell (j := 2) rfl
                    have q3 := H9.out.2.cell (j := 3) rfl
                    have q4 := H9.out.2.cell (j := 4) rfl
                    go_wp2_with fail
                    refine (HDP.out w9 (HLW.out.trans (H9.out.1.mono HLW.out.size))).mono ?_
                    rintro e w10 ⟨rfl, hb10⟩
                    have H10 : Hid (Bld b b (joinL (D3 ++ (DL.map fun d => lineV (bs ts) (printB d)).take k)) w10 ∧ BMv b b w8 w10) := Lib.hid ⟨(HT3.out.1.below H9.out.1).below hb10, (HT3.out.2.trans (BMv.of_below H9.out.1)).trans (BMv.of_below hb10)⟩
                    clear hb10 q0 q1 q2 q3 q4 H9 HDP
                    have HLC := Lib.hid (line_c b b (D3 ++ (DL.map fun d => lineV (bs ts) (printB d)).take k) (lineV (bs ts) (printB d)) ((⟨#[61]⟩ : ByteArray) ++ ts ++ (⟨#[58, 32]⟩ : ByteArray) ++ st ++ (⟨#[10]⟩ : ByteArray)) (by rw [bs_tag, HST.out.1]) HBK.out w10 H10.out.1 (HW.out _ (H8.out.2.1.trans H10.out.2)).2.2.2)
                    have z1 := HTZ.out
                    have z2 := HST.out.2
                    have y1 : ¬ 9223372036854775807 < 1 + ts.size := by omega
                    have y2 : ¬ 9223372036854775807 < 1 + ts.size + 2 := by omega
                    have y3 : ¬ 9223372036854775807 < 1 + ts.size + 2 + st.size := by omega
                    have y4 : ¬ 9223372036854775807 < 1 + ts.size + 2 + st.size + 1 := by omega
                    go_wp2_with fail
                    refine HLC.out.mono ?_
                    rintro e w11 ⟨rfl, hb11, hm11⟩
                    have H11 : Hid (Bld b b (joinL (D3 ++ (DL.map fun d => lineV (bs ts) (printB d)).take (k + 1))) w11 ∧ BMv b b w8 w11) := Lib.hid (by
                      rw [HXK.out, ← List.append_assoc]
                      exact ⟨hb11, H10.out.2.trans hm11⟩)
                    clear hb11 hm11 HLC y1 y2 y3 y4 z1 z2 H10
                    go_wp2_with fail
                    go_roundw
                    case rel => exact ⟨k + 1, by go_num, by omega, H11⟩
                    case measure => simp [intOf]; omega
                  · have hk1 : ¬ (k : Int) < (nj : Int) := by omega
                    have H12 : Hid (Bld b b (joinL (D2 ++ (List.range (j + 1)).flatMap (tagL p))) wr ∧ BMv b b w8 wr) := Lib.hid (by
                      rw [HR3.out]
                      have e : k = nj := by omega
                      have h1 := HT3.out
                      rw [List.take_of_length_le (by rw [List.length_map, HLN.out, e]; exact Nat.le_refl _)] at h1
                      exact h1)
                    go_wp2_with fail
                    go_roundw
                    case rel => exact ⟨j + 1, by go_num, by omega, H12⟩
                    case measure => simp [intOf]; omega
              · have hj1 : ¬ (j : Int) < 7 := by omega
                have H13 : Hid (Bld b b (joinL (D2 ++ (List.range 7).flatMap (tagL p))) wr ∧ BMv b b w8 wr) := Lib.hid (by
                  have e : j = 7 := by omega
                  have h1 := HT2.out
                  rw [e] at h1
                  exact h1)
                have hnf9 : p.files.length ≤ 140737488355328 := by
                  obtain ⟨_, _, _, _, h1, _⟩ := HP.out.1.files
                  omega
                have HFV := Lib.hid (strs_at HP.out.1.files HP.out.2.2.2.2.2.2 HS.out)
                have HFL : Hid (fileL p = p.files.map fun f => lineV flsW (bs f)) := Lib.hid rfl
                have cf := (HW.out _ (H8.out.2.1.trans H13.out.2)).2.1.cell (j := 11) rfl
                have HBF : Hid ((joinL ((D2 ++ (List.range 7).flatMap (tagL p)) ++ fileL p)).length ≤ 140737488355328) := Lib.hid (by rw [List.append_assoc]; exact HBT.out)
                have HSF : Hid ((ps.take (i + 1)).flatMap linesP = (D2 ++ (List.range 7).flatMap (tagL p)) ++ fileL p) := Lib.hid (by rw [List.append_assoc]; exact HSN2.out)
                have HNF : Hid (p.files.length = p.files.length) := Lib.hid rfl
                rw [HFL.out] at HBF HSF
                generalize D2 ++ (List.range 7).flatMap (tagL p) = D4 at H13 HBF HSF
                clear HFL
                obtain ⟨fl, hfl⟩ : ∃ fl, p.files = fl := ⟨_, rfl⟩
                obtain ⟨nf, hnf⟩ : ∃ nf, fl.length = nf := ⟨_, rfl⟩
                rw [hfl] at HFV HBF HSF
                rw [hfl, hnf] at cf hnf9
                have HNL := Lib.hid hnf
                rw [hnf] at HFV
                clear hnf hfl HNF
                go_wp2_with fail
                go_loopw [117] (fun vk wx => ∃ k : Nat, vk = .int .i64 k ∧ k ≤ nf ∧ Hid (Bld b b (joinL (D4 ++ (fl.map fun f => lineV flsW (bs f)).take k)) wx ∧ BMv b b w8 wx)) (fun vk _ => nf - (intOf vk).toNat)
                case atStart => exact ⟨0, rfl, Nat.zero_le _, Lib.hid ⟨by simpa using H13.out.1, H13.out.2⟩⟩
                case round =>
                  clear cf
                  obtain ⟨k, rfl, hk, HT3⟩ := hrel
                  by_cases hkt : k < nf
                  · have hk1 : (k : Int) < (nf : Int) := by omega
                    obtain ⟨b', off', rfl, hb', f, hfk, hfz, hcf⟩ := HFV.out k hkt
                    have HXK := Lib.hid (take_map (fun f => lineV flsW (bs f)) fl hfk)
                    have HLW := Lib.hid (HW.out _ (H8.out.2.1.trans HT3.out.2))
                    have HBK : Hid ((joinL ((D4 ++ (fl.map fun f => lineV flsW (bs f)).take k) ++ [lineV flsW (bs f)])).length ≤ 140737488355328) := Lib.hid (by
                      rw [List.append_assoc, ← HXK.out]
                      exact joinL_cut HBF.out (List.take_append_drop (k + 1) _).symm)
                    have q0 : wr.cell? ⟨b', off' + k, none⟩ = some (.string f) := by
                      rw [World.cell?_of_block (HLW.out.1.block b' hb')]
                      exact hcf
                    have HLC := Lib.hid (line_c b b (D4 ++ (fl.map fun f => lineV flsW (bs f)).take k) (lineV flsW (bs f)) ((⟨#[61, 70, 108, 115, 58, 32]⟩ : ByteArray) ++ f ++ (⟨#[10]⟩ : ByteArray)) (bs_fls _) HBK.out wr HT3.out.1 HLW.out.2.2.2)
                    have y1 : ¬ 9223372036854775807 < 6 + f.size := by omega
                    have y2 : ¬ 9223372036854775807 < 6 + f.size + 1 := by omega
                    clear hcf hfk
                    go_wp2_with fail
                    refine HLC.out.mono ?_
                    rintro e w11 ⟨rfl, hb11, hm11⟩
                    have H11 : Hid (Bld b b (joinL (D4 ++ (fl.map fun f => lineV flsW (bs f)).take (k + 1))) w11 ∧ BMv b b w8 w11) := Lib.hid (by
                      rw [HXK.out, ← List.append_assoc]
                      exact ⟨hb11, HT3.out.2.trans hm11⟩)
                    clear hb11 hm11 HLC y1 y2 q0
                    go_wp2_with fail
                    go_roundw
                    case rel => exact ⟨k + 1, by go_num, by omega, H11⟩
                    case measure => simp [intOf]; omega
                  · have hk1 : ¬ (k : Int) < (nf : Int) := by omega
                    have H12 : Hid (Bld b b (joinL ((ps.take (i + 1)).flatMap linesP)) wr ∧ BMv b b w5 wr) := Lib.hid (by
                      rw [HSF.out]
                      have e : k = nf := by omega
                      have h1 := HT3.out
                      rw [List.take_of_length_le (by rw [List.length_map, HNL.out, e]; exact Nat.le_refl _)] at h1
                      exact ⟨h1.1, HB1.out.trans (H8.out.2.1.trans h1.2)⟩)
                    go_wp2_with fail
                    go_roundw
                    case rel => exact ⟨i + 1, by go_num, by omega, H12⟩
                    case measure => simp [intOf]; omega
        · have hi1 : ¬ (i : Int) < (n : Int) := by omega
          have HR : Hid (Bld b b (joinL (ps.flatMap linesP)) wr) := Lib.hid (by
            have e : i = n := by omega
            have h1 := HT.out.1
            rw [e, HEND.out] at h1
            exact h1)
          have HL := Lib.hid (HLOW.out _ HT.out.2)
          have HSZ : Hid (b ≤ wr.heap.size ∧ w.heap.size ≤ b) := Lib.hid (by have := HT.out.2.size; have := H5.out; omega)
          go_wp2_with fail
          refine (buS_c b b _ wr HR.out HSZ.out.1).mono ?_
          rintro e w9 ⟨rfl, hb9⟩
          have HB9 := Lib.hid (HL.out.trans (hb9.mono HSZ.out.2))
          clear hb9
          go_wp2_with fail
          go_ret2
          exact ⟨rfl, HB9.out⟩
end Go.Proofs.YtjcefgjgjhdbpaaGreatDoor
