/-
  Packages of one name: their pool's bytes hold the name once. Plain words; no conditions beyond those typed.
  The document's names of a plain dependency. Helper text; the conditions are those typed.
  The walk of the law CacheOnce. Helper text; the conditions are those typed.
  The walk of the law CacheOnce. Helper text; the conditions are those typed.
-/
import Derived.Test.YtbdankpkdhhlmaaGreatLawsA
import Derived.Test.YtbdankpkdhhlmaaGreatRAddA
import Derived.Test.YtbdankpkdhhlmaaGreatLawE
import Derived.Deep.Cut
namespace Go.Proofs.YtbdankpkdhhlmaaGreat
set_option linter.unusedVariables false
set_option linter.unusedSimpArgs false

def nameQ : ByteArray := ⟨#[113, 122, 120, 118, 107, 106, 45, 117, 110, 108, 105, 107, 101, 108, 121, 45, 110, 97, 109, 101, 45, 119, 118, 117, 116]⟩
def oneQ : ByteArray := ⟨#[49]⟩
def archQ : ByteArray := ⟨#[110, 111, 97, 114, 99, 104]⟩
def mainQ : ByteArray := ⟨#[109, 97, 105, 110]⟩
def depQ : DepT := .mk 1 nameQ 0 ⟨#[]⟩ 0 (fun i => i.elim0)
def pkgQ : PkgT := ⟨nameQ, oneQ, archQ, ⟨#[]⟩, fun i => if i.val < 2 then 1 else 0, fun i _ => depQ, []⟩
def repoQ (n : Nat) : RepoT := ⟨mainQ, 0, false, List.replicate n pkgQ⟩
theorem chkQ : pkgCheck pkgQ = 0 := by kernel_rfl
theorem firstQ : ∀ n, firstBad (List.replicate n pkgQ) = 0
  | 0 => rfl
  | n + 1 => by
    rw [List.replicate_succ]
    unfold firstBad
    rw [if_neg (fun h => h chkQ)]
    exact firstQ n
theorem addQ {n : Nat} (hn : n ≤ 200) : addErr [] [] (repoQ n) = 0 := by
  unfold addErr
  rw [if_neg (fun h => h.elim (fun h => by have h2 := named_main.symm.trans h; cases h2) (fun h => by cases h)), if_neg (by simp), if_neg (by
    show ¬ (8 ≤ 0 ∨ 200 < 0 + (List.replicate n pkgQ).length)
    rw [List.length_replicate]
    omega)]
  exact firstQ n
theorem poolsQ {n : Nat} (hn : n ≤ 200) : (poolsOf [repoQ n]).rl = [repoQ n] := by
  show (PSt.step ⟨[], [], [], []⟩ (repoQ n)).rl = _
  unfold PSt.step addL
  simp only [addQ hn, if_true]
  rfl
/-- A package's tokens. -/
def tokQ : List Tok := [.txt nameQ, .txt oneQ, .txt archQ, .txt ⟨#[]⟩, .num 1, .num 1, .txt nameQ, .num 0, .num 1, .num 1, .txt nameQ, .num 0, .num 0, .num 0, .num 0, .num 0, .num 0, .num 0]
theorem tokQ_is : tokPkg pkgQ = tokQ := by kernel_rfl
def textsQ : List ByteArray := [mainQ, nameQ, oneQ, archQ, ⟨#[]⟩]
theorem textsQ_one : tokQ.foldl addT [mainQ] = textsQ := by kernel_rfl
theorem textsQ_more : tokQ.foldl addT textsQ = textsQ := by kernel_rfl
theorem textsQ_all : ∀ n, (List.flatMap tokPkg (List.replicate n pkgQ)).foldl addT textsQ = textsQ
  | 0 => rfl
  | n + 1 => by
    rw [List.replicate_succ, List.flatMap_cons, List.foldl_append, tokQ_is, textsQ_more]
    exact textsQ_all n
def headQ (n : Nat) : List Tok := [.num 1, .txt mainQ, .num 0, .num 0, .num n]
theorem tokens_q {n : Nat} (hn : n ≤ 200) : tokPool (poolsOf [repoQ n]).rs (poolsOf [repoQ n]).ks = headQ n ++ List.flatMap tokPkg (List.replicate n pkgQ) := by
  rw [tokPool_of (poolsOf_ok _).has, poolsQ hn]
  unfold tokRepoT tokRepo repoQ headQ
  simp [List.length_replicate, zig]
theorem texts_q {n : Nat} (h1 : 1 ≤ n) : textsOf (headQ n ++ List.flatMap tokPkg (List.replicate n pkgQ)) = textsQ := by
  obtain ⟨m, rfl⟩ : ∃ m, n = m + 1 := ⟨n - 1, by omega⟩
  unfold textsOf
  rw [List.foldl_append, List.replicate_succ, List.flatMap_cons, List.foldl_append, tokQ_is]
  show List.foldl addT (tokQ.foldl addT [mainQ]) _ = _
  rw [textsQ_one]
  exact textsQ_all m
def preQ : List UInt8 := [99, 104, 97, 110, 100, 108, 101, 114, 49, 1, 5, 4, 109, 97, 105, 110, 25]
def midQ : List UInt8 := [1, 49, 6, 110, 111, 97, 114, 99, 104, 0]
theorem tabQ : tabB textsQ = [4, 109, 97, 105, 110, 25] ++ (nameQ.data.toList ++ midQ) := by
  unfold tabB textsQ
  simp only [List.flatMap_cons, List.flatMap_nil]
  rw [show mainQ.size = 4 from rfl, show nameQ.size = 25 from rfl, show oneQ.size = 1 from rfl, show archQ.size = 6 from rfl, show (⟨#[]⟩ : ByteArray).size = 0 from rfl, Lib.uvarint_small (x := 4) (by decide), Lib.uvarint_small (x := 25) (by decide), Lib.uvarint_small (x := 1) (by decide), Lib.uvarint_small (x := 6) (by decide), Lib.uvarint_small (x := 0) (by decide)]
  rfl
theorem rend_small (T : List ByteArray) (ts : List Tok) (h : ∀ t ∈ ts, (match t with | .num n => n | .txt s => idxT T s) < 113) : 113 ∉ rends T ts := by
  intro hm
  obtain ⟨t, ht, hb⟩ := List.mem_flatMap.1 hm
  have h1 := h t ht
  cases t with
  | num n =>
    have h1 : n < 113 := h1
    have hb : 113 ∈ Lib.uvarint n := hb
    rw [Lib.uvarint_small (by omega), List.mem_singleton] at hb
    have := congrArg UInt8.toNat hb
    simp at this
    omega
  | txt s =>
    have h1 : idxT T s < 113 := h1
    have hb : 113 ∈ Lib.uvarint (idxT T s) := hb
    rw [Lib.uvarint_small (by omega), List.mem_singleton] at hb
    have := congrArg UInt8.toNat hb
    simp at this
    omega
theorem smallQ : ∀ t ∈ tokQ, (match t with | .num n => n | .txt s => idxT textsQ s) < 113 := by
  unfold tokQ
  simp only [List.mem_cons, List.not_mem_nil, or_false, forall_eq_or_imp, forall_eq]
  refine ⟨?_, ?_, ?_, ?_, ?_, ?_, ?_, ?_, ?_, ?_, ?_, ?_, ?_, ?_, ?_, ?_, ?_, ?_⟩ <;> exact of_decide_eq_true (by kernel_rfl)
/-- The bytes: the name stands in them, and its first byte nowhere else. -/
theorem bytes_q {n : Nat} (h1 : 1 ≤ n) (hn : n < 113) : ∃ post : List UInt8, encB 1 (tokPool (poolsOf [repoQ n]).rs (poolsOf [repoQ n]).ks) = preQ ++ (nameQ.data.toList ++ post) ∧ 113 ∉ post := by
  rw [tokens_q (by omega)]
  unfold encB outOf
  rw [texts_q h1, tabQ]
  refine ⟨midQ ++ rends textsQ (headQ n ++ List.flatMap tokPkg (List.replicate n pkgQ)), ?_, ?_⟩
  · rw [show (textsQ).length = 5 from rfl, Lib.uvarint_small (x := 1) (by decide), Lib.uvarint_small (x := 5) (by decide)]
    show magicB ++ [1] ++ [5] ++ ([4, 109, 97, 105, 110, 25] ++ (nameQ.data.toList ++ midQ)) ++ _ = preQ ++ _
    rw [show preQ = magicB ++ [1] ++ [5] ++ [4, 109, 97, 105, 110, 25] from rfl]
    simp only [List.append_assoc]
  · intro hm
    rcases List.mem_append.1 hm with hm | hm
    · exact absurd hm (by decide)
    · refine rend_small textsQ _ (fun t ht => ?_) hm
      rcases List.mem_append.1 ht with ht | ht
      · unfold headQ at ht
        simp only [List.mem_cons, List.not_mem_nil, or_false] at ht
        rcases ht with rfl | rfl | rfl | rfl | rfl
        · show 1 < 113; decide
        · exact of_decide_eq_true (by kernel_rfl)
        · show 0 < 113; decide
        · show 0 < 113; decide
        · exact hn
      · obtain ⟨p, hp, ht⟩ := List.mem_flatMap.1 ht
        rw [List.eq_of_mem_replicate hp, tokQ_is] at ht
        exact smallQ t ht
/-- Where the name stands. -/
theorem stands_q {post : List UInt8} (hp : 113 ∉ post) (i : Nat) : ((preQ ++ (nameQ.data.toList ++ post)).drop i).take 25 = nameQ.data.toList ↔ i = 17 := by
  constructor
  · intro h
    have h0 : (((preQ ++ (nameQ.data.toList ++ post)).drop i).take 25)[0]? = some 113 := by rw [h]; rfl
    rw [List.getElem?_take_of_lt (by decide), List.getElem?_drop, Nat.add_zero] at h0
    by_cases h1 : i < 17
    · rw [List.getElem?_append_left (by exact h1)] at h0
      have : ∀ j, j < 17 → preQ[j]? ≠ some 113 := by decide
      exact absurd h0 (this i h1)
    · rw [List.getElem?_append_right (by show 17 ≤ i; omega), show preQ.length = 17 from rfl] at h0
      by_cases h2 : i - 17 < 25
      · rw [List.getElem?_append_left (by exact h2)] at h0
        have : ∀ j, j < 25 → nameQ.data.toList[j]? = some 113 → j = 0 := by decide
        have := this _ h2 h0
        omega
      · rw [List.getElem?_append_right (by show 25 ≤ i - 17; omega)] at h0
        exact absurd (List.mem_of_getElem? h0) hp
  · intro h
    subst h
    rfl
end Go.Proofs.YtbdankpkdhhlmaaGreat
namespace Go.Proofs.YtbdankpkdhhlmaaGreat
set_option linter.unusedVariables false
set_option linter.unusedSimpArgs false
open Go.RowKit Go.Maps

set_option maxHeartbeats 2000000 in
set_option maxRecDepth 100000 in
theorem rput_nil (s : ByteArray) (w : World) : Calls Tryz.prog 65 #[.slice none 0 0, .string s] w fun e w' => (∃ a c, e = .returned (.slice a 1 c)) ∧ Below w.heap.size w w' := by
  have hcap : ¬ (281474976710656 < Builtin.nextslicecap 1 0 * Tryz.t9.bytes) := of_decide_eq_true (by kernel_rfl)
  have hcut : ∀ x, 1 ≤ (Question.appendCap 1 0 9).cut x := fun x => Nat.le_add_right 1 _
  go_enter Tryz.func65, Tryz.ntmps65
  go_upto_region 2 with fail
  go_loopw [5] (fun vi wr => vi = .int .i64 0 ∧ w = wr) (fun _ _ => 0)
  case atStart => exact ⟨rfl, rfl⟩
  case round =>
    obtain ⟨rfl, rfl⟩ := hrel
    go_upto_region 6 with fail
    go_region
    all_goals
      go_wp2_with fail
      go_ret
      exact ⟨⟨_, _, rfl⟩, below_dr1 (below_dr1 (below_tr (below_tr (below1 _ _) (below1 _ _)) (below1 _ _)))⟩
set_option maxHeartbeats 2000000 in
set_option maxRecDepth 100000 in
theorem rnames_one (nm : ByteArray) (al : Option Addr) (cl : Nat) (w : World) : Calls Tryz.prog 39 #[.agg #[.int .i64 1, .string nm, .int .i64 0, .string ⟨#[]⟩, .slice al 0 cl], .slice none 0 0] w fun e w' => (∃ a c, e = .returned (.slice a 1 c)) ∧ Below w.heap.size w w' := by
  obtain ⟨w1, e1⟩ : ∃ w1, w.alloc (.cells #[.int .i64 1, .string nm, .int .i64 0, .string ⟨#[]⟩, .slice al 0 cl] 52) = w1 := ⟨_, rfl⟩
  have HB1 : Hid (Below w.heap.size w w1 ∧ Box5 w1 w.heap.size 1 nm 0 ⟨#[]⟩ (.slice al 0 cl)) := by
    rw [← e1]
    exact ⟨below1 _ _, .of (alloc_at _ _)⟩
  have p0 := HB1.out.2.c0
  have p1 := HB1.out.2.c1
  go_enter Tryz.func39, Tryz.ntmps39
  go_wp2_with fail
  refine (rput_nil nm w1).mono ?_
  rintro e w2 ⟨⟨a, c, rfl⟩, hb2⟩
  have HB2 : Hid (Below w.heap.size w w2 ∧ Box5 w2 w.heap.size 1 nm 0 ⟨#[]⟩ (.slice al 0 cl)) := ⟨below_tr HB1.out.1 hb2, HB1.out.2.below hb2⟩
  clear hb2 p0 p1 e1
  have p4 := HB2.out.2.c4
  go_wp2_with fail
  go_loopw [1, 5] (fun vl vi wr => vl = .slice a 1 c ∧ vi = .int .i64 0 ∧ w2 = wr) (fun _ _ _ => 0)
  case atStart => exact ⟨rfl, rfl, rfl⟩
  case round =>
    obtain ⟨rfl, rfl, rfl⟩ := hrel
    go_wp2_with fail
    go_ret
    exact ⟨⟨_, _, rfl⟩, HB2.out.1⟩
set_option maxHeartbeats 2000000 in
set_option maxRecDepth 100000 in
/-- Names. -/
theorem rnames_c (nm : ByteArray) (al : Option Addr) (cl : Nat) (w : World) : Calls Tryz.prog 18 #[.agg #[.int .i64 1, .string nm, .int .i64 0, .string ⟨#[]⟩, .slice al 0 cl]] w fun e w' => (∃ a c, e = .returned (.slice a 1 c)) ∧ Below w.heap.size w w' := by
  obtain ⟨w1, e1⟩ : ∃ w1, w.alloc (.cells #[.int .i64 1, .string nm, .int .i64 0, .string ⟨#[]⟩, .slice al 0 cl] 52) = w1 := ⟨_, rfl⟩
  have HB1 : Hid (Below w.heap.size w w1 ∧ Box5 w1 w.heap.size 1 nm 0 ⟨#[]⟩ (.slice al 0 cl)) := by
    rw [← e1]
    exact ⟨below1 _ _, .of (alloc_at _ _)⟩
  have p0 := HB1.out.2.c0
  have p1 := HB1.out.2.c1
  have p2 := HB1.out.2.c2
  have p3 := HB1.out.2.c3
  have p4 := HB1.out.2.c4
  go_enter Tryz.func18, Tryz.ntmps18
  go_wp2_with fail
  refine (rnames_one nm al cl w1).mono ?_
  rintro e w2 ⟨⟨a, c, rfl⟩, hb2⟩
  have HB2 : Hid (Below w.heap.size w w2) := below_tr HB1.out.1 hb2
  clear hb2 p0 p1 p2 p3 p4 e1
  go_wp2_with fail
  go_ret
  exact ⟨⟨_, _, rfl⟩, HB2.out⟩
end Go.Proofs.YtbdankpkdhhlmaaGreat
namespace Go.Proofs.YtbdankpkdhhlmaaGreat
set_option linter.unusedVariables false
set_option linter.unusedSimpArgs false
open Go.RowKit Go.Maps

theorem info_partsQ {t : TypeId} {z : Value} {s b : Nat} (h : (Tryz.prog.info? t).map (fun i => (i.zero, i.size, i.bytes)) = some (some z, s, b)) : ∃ i, Tryz.prog.info? t = some i ∧ i.zero = some z ∧ i.size = s ∧ i.bytes = b := by
  cases e : Tryz.prog.info? t with
  | none => rw [e] at h; cases h
  | some i =>
    rw [e] at h
    simp only [Option.map_some, Option.some.injEq, Prod.mk.injEq] at h
    exact ⟨i, rfl, h.1, h.2.1, h.2.2⟩
/-- Twenty-five bytes out of a slice. -/
theorem slice_mid {w : World} {ab : Option Addr} {l : List UInt8} (hby : BytesAt w ab l) {cb i : Nat} (hi : i + 25 ≤ l.length) (hc : l.length ≤ cb) :
    ∃ a', (∀ W, (Instr.slice 23 (.slice ab l.length cb) (some (.int .i64 (i : Int))) (some (.int .i64 ((i : Int) + 25))) none).run Tryz.prog W = .ok (.slice a' 25 (cb - i)) W) ∧ BytesAt w a' ((l.drop i).take 25) := by
  refine ⟨if cb = i then ab else ab.map (·.add i), fun W => ?_, ?_⟩
  · rw [run_slice_lh (P := Tryz.prog) W 23 ab l.length cb (by kernel_rfl) .i64 .i64 (i : Int) ((i : Int) + 25) (by omega) (by omega) (by omega)]
    rw [show Tryz.prog.elem 23 = 5 by kernel_rfl, Tryz.sizeOf5 W]
    have e : ((i : Int) + 25).toNat = i + 25 := by omega
    simp [Result.andThen, sliced, e]
  · rcases hby with h | ⟨b, off, rfl, hcell⟩
    · subst h; simp at hi
    · refine .inr ⟨b, off + i, ?_, fun j hj => ?_⟩
      · rw [if_neg (by omega)]
        show some ((⟨b, off, none⟩ : Addr).add i) = _
        rw [addr_add]
      · rw [List.length_take, List.length_drop] at hj
        rw [Nat.add_assoc, hcell (i + j) (by omega)]
        simp [List.getD, List.getElem?_take, List.getElem?_drop, show j < 25 by omega]
theorem depQ_v {w : World} {S : Nat → Prop} {b : Nat} (h : BoxN w b [.int .i64 1, .string nameQ, .int .i64 0, .string ⟨#[]⟩, .slice none 0 0] 52) (hS : S b) (args : Fin 1 → DepT) (ha : ∀ i, args i = depQ) : DepsV w S 1 args (.slice (some ⟨b, 0, none⟩) 1 1) := by
  refine ⟨_, _, rfl, by decide, fun _ => ⟨b, 0, rfl, hS, fun i => ⟨[.int .i64 1, .string nameQ, .int .i64 0, .string ⟨#[]⟩, .slice none 0 0], ?_, fun j v hj => ?_⟩⟩⟩
  · rw [ha i]
    exact ⟨none, 0, rfl, by decide, by decide, by decide, by decide, fun h => absurd rfl h⟩
  · obtain rfl : i = 0 := Fin.ext (by omega)
    rw [show 0 + (0 : Fin 1).val * 5 + j = j by simp]
    exact h.cell hj
theorem pkgQ_v {w : World} {S : Nat → Prop} {b1 b2 : Nat} (h1 : BoxN w b1 [.int .i64 1, .string nameQ, .int .i64 0, .string ⟨#[]⟩, .slice none 0 0] 52) (h2 : BoxN w b2 [.int .i64 1, .string nameQ, .int .i64 0, .string ⟨#[]⟩, .slice none 0 0] 52) (hS1 : S b1) (hS2 : S b2) :
    PkgV w S pkgQ (fun j => if j.val = 0 then .slice (some ⟨b2, 0, none⟩) 1 1 else if j.val = 1 then .slice (some ⟨b1, 0, none⟩) 1 1 else .slice none 0 0) (.slice none 0 0) := by
  refine ⟨by decide, by decide, by decide, by decide, fun j => ?_, strs_none _ _⟩
  match j with
  | ⟨0, _⟩ => exact depQ_v h2 hS2 _ (fun _ => rfl)
  | ⟨1, _⟩ => exact depQ_v h1 hS1 _ (fun _ => rfl)
  | ⟨2, _⟩ => exact deps_none _ _ _
  | ⟨3, _⟩ => exact deps_none _ _ _
  | ⟨4, _⟩ => exact deps_none _ _ _
  | ⟨5, _⟩ => exact deps_none _ _ _
  | ⟨6, _⟩ => exact deps_none _ _ _
theorem flatQ_len : ∀ n, (List.flatMap tokPkg (List.replicate n pkgQ)).length = 18 * n
  | 0 => rfl
  | n + 1 => by
    rw [List.replicate_succ, List.flatMap_cons, List.length_append, flatQ_len n, tokQ_is]
    show 18 + 18 * n = _
    omega
theorem canQ {n : Nat} (hn : n ≤ 200) : CanL (poolsOf [repoQ n]).rl := by
  rw [poolsQ hn]
  refine ⟨fun r hr => ?_, ?_⟩
  · rw [List.mem_singleton] at hr
    subst hr
    show (-9223372036854775808 : Int) ≤ 0 ∧ (0 : Int) ≤ 9223372036854775807
    decide
  · have h : (tokRepoT (repoQ n)).length = 4 + 18 * n := by
      unfold tokRepoT tokRepo
      simp only [List.length_cons]
      show (List.flatMap tokPkg (List.replicate n pkgQ)).length + 1 + 1 + 1 + 1 = _
      rw [flatQ_len]
      omega
    rw [List.flatMap_cons, List.flatMap_nil, List.append_nil, h]
    omega
/-- The first package's requirement, in a row of such packages. -/
theorem rowQ_at {w : World} {L N : Nat} {ap : Option Addr} {cp : Nat} {xs : List Value} (h : PkgRow w L (.slice ap N cp) N (List.replicate N pkgQ) xs) (hN : 0 < N) : ∃ g b1 o1 c1 al cl, ap = some ⟨g, 0, none⟩ ∧ ∀ W : World, Below w.heap.size w W →
    W.cell? ⟨g, 5, none⟩ = some (.slice (some ⟨b1, o1, none⟩) 1 c1) ∧ W.cell? ⟨b1, o1, none⟩ = some (.int .i64 1) ∧ W.cell? ⟨b1, o1 + 1, none⟩ = some (.string nameQ) ∧ W.cell? ⟨b1, o1 + 2, none⟩ = some (.int .i64 0) ∧ W.cell? ⟨b1, o1 + 3, none⟩ = some (.string ⟨#[]⟩) ∧ W.cell? ⟨b1, o1 + 4, none⟩ = some (.slice al 0 cl) := by
  obtain ⟨v, vf, hv, hx⟩ := h.has 0 (by rw [List.length_replicate]; exact hN) hN
  rw [List.getElem_replicate] at hv hx
  obtain ⟨a1, c1, e1, _, h1⟩ := hv.deps 1
  obtain ⟨b1, o1, e2, _, h2⟩ := h1 (by decide)
  subst e2
  obtain ⟨cs, h3, h4⟩ := h2 ⟨0, by decide⟩
  obtain ⟨al, cl, e3, _⟩ := h3
  subst e3
  rcases h.row.2 with ⟨e, h0⟩ | ⟨g, cap, cur, e, hg, hat, _⟩
  · omega
  · injection e with e1' e2' e3'
    refine ⟨g, b1, o1, c1, al, cl, e1', fun W hW => ?_⟩
    have h5 := h4.keep (hW.block b1 (World.block_lt_of_cell? w _ (h4 0 _ rfl)))
    have h6 : W.cell? ⟨g, 0 * 12 + 5, none⟩ = some (v 1) := by
      subst e1'
      exact ownsRow_cell (ownsRow_below h.row hW) (hx 5 _ rfl)
    rw [e1] at h6
    have h50 := h5 0 _ rfl
    have h51 := h5 1 _ rfl
    have h52 := h5 2 _ rfl
    have h53 := h5 3 _ rfl
    have h54 := h5 4 _ rfl
    simp only [Nat.zero_mul, Nat.add_zero, Nat.zero_add] at h50 h51 h52 h53 h54 h6
    exact ⟨h6, h50, h51, h52, h53, h54⟩
end Go.Proofs.YtbdankpkdhhlmaaGreat
namespace Go.Proofs.YtbdankpkdhhlmaaGreat
set_option linter.unusedVariables false
set_option linter.unusedSimpArgs false
open Go.RowKit Go.Maps

set_option maxHeartbeats 8000000 in
set_option maxRecDepth 100000 in
theorem cacheOnce_walk (w : World) (x : Int) (hx0 : -9223372036854775808 ≤ x) (hx1 : x < 9223372036854775808) : Calls Tryz.prog 6 #[.int .i64 x] w fun e w' => e = .returned (.bool true) ∧ Below w.heap.size w w' := by
  go_enter Tryz.func6, Tryz.ntmps6
  go_upto_if 16 with (go_at_call 10; refine (awake_c _).mono ?_; rintro e w1 ⟨rfl, hb⟩; have HB1 := Lib.hid hb; clear hb)
  go_cut [0] from 17 (fun v0 wx => ∃ y : Int, v0 = .int .i64 y ∧ 0 ≤ y ∧ y < 9223372036854775808 ∧ Hid (Below w.heap.size w wx))
  case first =>
    by_cases hn : x < 0
    · go_wp2_with fail
      go_meet
      case rel => exact ⟨_, rfl, by go_num, by go_num, HB1⟩
    · go_wp2_with fail
      go_meet
      case rel => exact ⟨_, rfl, by omega, hx1, HB1⟩
  case rest =>
    obtain ⟨y, rfl, hy0, hy1, HBc⟩ := hcut
    go_upto_region 4 with fail
    go_cut [0] from 20 (fun v0 wx => ∃ N : Nat, v0 = .int .i64 (N : Int) ∧ 2 ≤ N ∧ N ≤ 101 ∧ Hid (Below w.heap.size w wx))
    case first =>
      go_wp2_with fail
      go_meet
      case rel =>
        obtain ⟨N, hN⟩ : ∃ N : Nat, (2 + y % 100) = (N : Int) := ⟨(2 + y % 100).toNat, by omega⟩
        exact ⟨N, by rw [← hN], by omega, by omega, HBc⟩
    case rest =>
      obtain ⟨N, rfl, hN2, hN1, HBd⟩ := hcut
      obtain ⟨w2, rfl⟩ : ∃ x : World, x = wc := ⟨_, rfl⟩
      have HB2 : Hid (Below w.heap.size w w2) := HBd
      clear HBc HBd hy0 hy1
      go_upto_region 6 with fail
      rw [show (⟨#[113, 122, 120, 118, 107, 106, 45, 117, 110, 108, 105, 107, 101, 108, 121, 45, 110, 97, 109, 101, 45, 119, 118, 117, 116]⟩ : ByteArray) = nameQ from rfl]
      obtain ⟨i45, hi45, hz450, hz451, hz452⟩ := info_partsQ info45
      go_wp2_with fail
      go_loopw [5, 6] (fun vl vi wr => ∃ (i : Nat) (ap : Option Addr) (cp : Nat) (xs : List Value), vl = .slice ap i cp ∧ vi = .int .i64 (i : Int) ∧ i ≤ N ∧ Hid (Below w2.heap.size w2 wr ∧ PkgRow wr w2.heap.size (.slice ap i cp) i (List.replicate N pkgQ) xs)) (fun _ vi _ => N - (intOf vi).toNat)
      case atStart => exact ⟨0, none, 0, [], rfl, rfl, Nat.zero_le _, Below.refl _ _, PkgRow.nil _ _ _⟩
      case round =>
        obtain ⟨i, ap, cp, xs, rfl, rfl, hiN, HT⟩ := hrel
        obtain ⟨wq, rfl⟩ : ∃ x : World, x = wr := ⟨_, rfl⟩
        by_cases hlt : i < N
        · have hi1 : (i : Int) < (N : Int) := by omega
          go_upto_region 11 with fail
          obtain ⟨w3, e3⟩ : ∃ w3, wq.alloc (.cells #[.int .i64 1, .string nameQ, .int .i64 0, .string ⟨#[]⟩, .slice none 0 0] 52) = w3 := ⟨_, rfl⟩
          obtain ⟨w4, e4⟩ : ∃ w4, w3.alloc (.cells #[.int .i64 1, .string nameQ, .int .i64 0, .string ⟨#[]⟩, .slice none 0 0] 52) = w4 := ⟨_, rfl⟩
          obtain ⟨w5, e5⟩ : ∃ w5, w4.alloc (.cells #[.int .i64 1, .string nameQ, .int .i64 0, .string ⟨#[]⟩, .slice none 0 0] 52) = w5 := ⟨_, rfl⟩
          obtain ⟨w6, e6⟩ : ∃ w6, w5.alloc (.cells #[.string nameQ, .string ⟨#[49]⟩, .string ⟨#[110, 111, 97, 114, 99, 104]⟩, .string ⟨#[]⟩, .slice (some ⟨w4.heap.size, 0, none⟩) 1 1, .slice (some ⟨w3.heap.size, 0, none⟩) 1 1, .slice none 0 0, .slice none 0 0, .slice none 0 0, .slice none 0 0, .slice none 0 0, .slice none 0 0] 45) = w6 := ⟨_, rfl⟩
          have HB3 : Hid (Below wq.heap.size wq w3 ∧ BoxN w3 wq.heap.size [.int .i64 1, .string nameQ, .int .i64 0, .string ⟨#[]⟩, .slice none 0 0] 52) := by rw [← e3]; exact ⟨below1 _ _, boxN_alloc _ _ _⟩
          have HB4 : Hid (Below w3.heap.size w3 w4 ∧ BoxN w4 w3.heap.size [.int .i64 1, .string nameQ, .int .i64 0, .string ⟨#[]⟩, .slice none 0 0] 52) := by rw [← e4]; exact ⟨below1 _ _, boxN_alloc _ _ _⟩
          have HB5 : Hid (Below w4.heap.size w4 w5 ∧ BoxN w5 w4.heap.size [.int .i64 1, .string nameQ, .int .i64 0, .string ⟨#[]⟩, .slice none 0 0] 52) := by rw [← e5]; exact ⟨below1 _ _, boxN_alloc _ _ _⟩
          have HB6 : Hid (Below w5.heap.size w5 w6 ∧ w6.heap[w5.heap.size]? = some (.cells #[.string nameQ, .string ⟨#[49]⟩, .string ⟨#[110, 111, 97, 114, 99, 104]⟩, .string ⟨#[]⟩, .slice (some ⟨w4.heap.size, 0, none⟩) 1 1, .slice (some ⟨w3.heap.size, 0, none⟩) 1 1, .slice none 0 0, .slice none 0 0, .slice none 0 0, .slice none 0 0, .slice none 0 0, .slice none 0 0] 45 (0, 0))) := by rw [← e6]; exact ⟨below1 _ _, heap_alloc_new w5 _⟩
          have HBQ : Hid (Below wq.heap.size wq w6) := Lib.hid (below_tr (below_tr (below_tr HB3.out.1 HB4.out.1) HB5.out.1) HB6.out.1)
          have HR6 : Hid (w6.ownsRow w2.heap.size 45 12 (.slice ap i cp) i xs) := Lib.hid (HT.out.2.below HBQ.out).row
          have hL6 : w2.heap.size ≤ w6.heap.size := Nat.le_trans HT.out.1.size HBQ.out.size
          have HNX : Hid (∀ g c w9, w9.ownsRow w2.heap.size 45 12 (.slice (some ⟨g, 0, none⟩) (i + 1) c) (i + 1) (xs ++ [.string nameQ, .string ⟨#[49]⟩, .string ⟨#[110, 111, 97, 114, 99, 104]⟩, .string ⟨#[]⟩, .slice (some ⟨w4.heap.size, 0, none⟩) 1 1, .slice (some ⟨w3.heap.size, 0, none⟩) 1 1, .slice none 0 0, .slice none 0 0, .slice none 0 0, .slice none 0 0, .slice none 0 0, .slice none 0 0]) → w6.grownBy w9 (Value.slice ap i cp).ownBlock → ((Value.slice ap i cp).ownBlock = some g ∨ g = w6.heap.size) → Below w2.heap.size w2 w9 ∧ ∃ xs', PkgRow w9 w2.heap.size (.slice (some ⟨g, 0, none⟩) (i + 1) c) (i + 1) (List.replicate N pkgQ) xs') := Lib.hid fun g c w9 h1 h2 h3 => by
            refine ⟨?_, ?_⟩
            · exact (below_tr HT.out.1 HBQ.out).trans ⟨h2.os, h2.tape, h2.output, h2.size, fun b hb => h2.block b (Nat.lt_of_lt_of_le hb hL6) (fun e => by have := (HR6.out.lt b e.symm).1; omega)⟩
            · have hlr : i < (List.replicate N pkgQ).length := by rw [List.length_replicate]; exact hlt
              have hsz3 : wq.heap.size ≤ w3.heap.size := HB3.out.1.size
              have hsz4 : w3.heap.size ≤ w4.heap.size := HB4.out.1.size
              have h0 := pkgQ_v (S := New wq.heap.size w6) (((HB4.out.2.below HB5.out.1)).below HB6.out.1) (HB5.out.2.below HB6.out.1) ⟨hsz3, Fr.of_box ((HB4.out.2.below HB5.out.1).below HB6.out.1)⟩ ⟨by omega, Fr.of_box (HB5.out.2.below HB6.out.1)⟩
              exact ⟨_, HT.out.2.step HT.out.1.size HBQ.out hlr (v := fun j => if j.val = 0 then .slice (some ⟨w4.heap.size, 0, none⟩) 1 1 else if j.val = 1 then .slice (some ⟨w3.heap.size, 0, none⟩) 1 1 else .slice none 0 0) (vf := .slice none 0 0) (by rw [List.getElem_replicate]; exact h0) (by rw [List.getElem_replicate]; exact h1) h2 h3⟩
          rw [e3]
          have p0 := HB3.out.2.cell (j := 0) rfl
          have p1 := HB3.out.2.cell (j := 1) rfl
          have p2 := HB3.out.2.cell (j := 2) rfl
          have p3 := HB3.out.2.cell (j := 3) rfl
          have p4 := HB3.out.2.cell (j := 4) rfl
          have q0 := (HB3.out.2.below HB4.out.1).cell (j := 0) rfl
          have q1 := (HB3.out.2.below HB4.out.1).cell (j := 1) rfl
          have q2 := (HB3.out.2.below HB4.out.1).cell (j := 2) rfl
          have q3 := (HB3.out.2.below HB4.out.1).cell (j := 3) rfl
          have q4 := (HB3.out.2.below HB4.out.1).cell (j := 4) rfl
          go_wp2_with (at_builtin; refine wpList_append_lies _ rfl (.tmp 30) (.tmp 37) 38 rfl w2.heap.size 45 i45 _ 12 256 Tryz.underlying38 hi45 hz450 hz451 hz452 rfl (by decide) (.slice ap i cp) i xs rfl HR6.out ⟨w5.heap.size, 0, none⟩ 1 1 [.string nameQ, .string ⟨#[49]⟩, .string ⟨#[110, 111, 97, 114, 99, 104]⟩, .string ⟨#[]⟩, .slice (some ⟨w4.heap.size, 0, none⟩) 1 1, .slice (some ⟨w3.heap.size, 0, none⟩) 1 1, .slice none 0 0, .slice none 0 0, .slice none 0 0, .slice none 0 0, .slice none 0 0, .slice none 0 0] rfl rfl (World.news_of_block (cs := #[.string nameQ, .string ⟨#[49]⟩, .string ⟨#[110, 111, 97, 114, 99, 104]⟩, .string ⟨#[]⟩, .slice (some ⟨w4.heap.size, 0, none⟩) 1 1, .slice (some ⟨w3.heap.size, 0, none⟩) 1 1, .slice none 0 0, .slice none 0 0, .slice none 0 0, .slice none 0 0, .slice none 0 0, .slice none 0 0]) (t := 45) (fr := (0, 0)) HB6.out.2) (by intro u hu; simp only [List.mem_cons, List.not_mem_nil, or_false] at hu; rcases hu with rfl | rfl | rfl | rfl | rfl | rfl | rfl | rfl | rfl | rfl | rfl | rfl <;> rfl) (by decide) (by unfold maxLen; omega) (by omega) hL6 w6.heap.size rfl ?_; intro g9 c9 w9 hown9 hgrow9 hat9 hlt9; have H9 := Lib.hid (HNX.out g9 c9 w9 hown9 hgrow9 hat9); clear hown9 hgrow9 hat9 hlt9)
          go_roundw
          case rel =>
            obtain ⟨hb9, xs', hr9⟩ := H9.out
            exact ⟨i + 1, some ⟨g9, 0, none⟩, c9, xs', rfl, by go_num, by omega, hb9, hr9⟩
          case measure => simp [intOf]; omega
        · have hi1 : ¬ (i : Int) < (N : Int) := by omega
          have hiN2 : i = N := by omega
          have HROW : Hid (PkgRow wq w2.heap.size (.slice ap N cp) N (List.replicate N pkgQ) xs) := Lib.hid (by
            have h := HT.out.2
            rw [hiN2] at h
            exact h)
          have HBQ : Hid (Below w.heap.size w wq) := Lib.hid (below_tr HB2.out HT.out.1)
          obtain ⟨g0, b1, o1, c1, al, cl, rfl, hcells⟩ := rowQ_at HROW.out (by omega)
          have HCE := Lib.hid hcells
          clear HT hcells
          subst hiN2
          obtain ⟨w7, e7⟩ : ∃ w7, wq.alloc (.cells #[.string ⟨#[109, 97, 105, 110]⟩, .int .i64 0, .bool false, .slice (some ⟨g0, 0, none⟩) i cp] 40) = w7 := ⟨_, rfl⟩
          have HB7 : Hid (Below wq.heap.size wq w7 ∧ BoxN w7 wq.heap.size [.string ⟨#[109, 97, 105, 110]⟩, .int .i64 0, .bool false, .slice (some ⟨g0, 0, none⟩) i cp] 40) := by rw [← e7]; exact ⟨below1 _ _, boxN_alloc _ _ _⟩
          have HRV : Hid (ReposV w7 (· < w7.heap.size) [repoQ i] (.slice (some ⟨wq.heap.size, 0, none⟩) 1 1)) := Lib.hid <| by
            have hpk := (HROW.out.own (by rw [List.length_replicate])).pkgs (c := cp) (by rw [List.length_replicate]) (by omega)
            have hpk7 : PkgsV w7 (· < w7.heap.size) (List.replicate i pkgQ) (.slice (some ⟨g0, 0, none⟩) i cp) := hpk.keep (fun b hb => Nat.lt_of_lt_of_le hb.2.lt HB7.out.1.size) (fun b _ hl => HB7.out.1.block b hl)
            refine ⟨_, _, rfl, by show 1 * 56 ≤ 140737488355328; decide, fun _ => ⟨wq.heap.size, 0, rfl, HB7.out.2.lt, fun j hj => ?_⟩⟩
            match j, hj with
            | 0, _ =>
              refine ⟨some ⟨g0, 0, none⟩, i, cp, hpk7, fun j v hj => ?_⟩
              rw [show 0 + 0 * 4 + j = j by omega]
              exact HB7.out.2.cell hj
            | j + 1, h => exact absurd h (by show ¬ j + 1 < 1; omega)
          have hP := Lib.hid (pools_c 1 [repoQ i] (some ⟨wq.heap.size, 0, none⟩) 1 1 w7 HRV.out)
          go_wp2_with fail
          refine hP.out.mono ?_
          rintro e w8 ⟨B, role, P, M, Q, rfl, hBw, hb8, hboth⟩
          obtain ⟨vr, va, lv, hpool⟩ := hboth.pool
          have HW := Lib.hid (write_c hpool ((poolsOf_ok [repoQ i]).canW (canQ (by omega)) (.inl rfl)))
          have HB8 : Hid (Below wq.heap.size wq w8) := Lib.hid (below_tr HB7.out.1 hb8)
          clear hP hboth hpool e7 HRV HB7 hb8 hBw
          go_wp2_with fail
          refine HW.out.mono ?_
          rintro e w9 ⟨v, rfl, hv⟩
          have HB9 : Hid (Below wq.heap.size wq w9) := Lib.hid (below_tr HB8.out hv.2)
          obtain ⟨a9, c9, rfl, hby9, hc9, _⟩ := hv.slice2
          rw [show (kindP 1).toNat = 1 from rfl] at hby9 hc9 ⊢
          obtain ⟨post, hpost, h113⟩ := bytes_q (n := i) (by omega) (by omega)
          obtain ⟨lb, hlb⟩ : ∃ lb, encB 1 (tokPool (poolsOf [repoQ i]).rs (poolsOf [repoQ i]).ks) = lb := ⟨_, rfl⟩
          rw [hlb] at hby9 hc9 hpost ⊢
          obtain ⟨n9, hn9⟩ : ∃ n, lb.length = n := ⟨_, rfl⟩
          have h42 : 42 ≤ n9 ∧ n9 ≤ 1073741824 := by
            constructor
            · rw [← hn9, hpost, List.length_append, List.length_append]
              show 42 ≤ 17 + (25 + post.length)
              omega
            · rw [← hn9, ← hlb]
              exact (poolsOf_ok [repoQ i]).len (canQ (by omega)) (.inl rfl)
          have HST : Hid (∀ j, (lb.drop j).take 25 = nameQ.data.toList ↔ j = 17) := Lib.hid fun j => by rw [hpost]; exact stands_q h113 j
          have HBY := Lib.hid hby9
          have HSL : Hid (∀ j, j + 25 ≤ n9 → ∃ a', (∀ W, (Instr.slice 23 (.slice a9 n9 c9) (some (.int .i64 (j : Int))) (some (.int .i64 ((j : Int) + 25))) none).run Tryz.prog W = .ok (.slice a' 25 (c9 - j)) W) ∧ BytesAt w9 a' ((lb.drop j).take 25)) := Lib.hid fun j hj => by
            have := slice_mid hby9 (cb := c9) (i := j) (by omega) hc9
            rw [hn9] at this
            exact this
          have HLB : Hid (lb.length = n9) := Lib.hid hn9
          rw [hn9]
          have hsz : (nameQ.size : Int) = 25 := rfl
          clear hv hby9 hc9 hpost h113 hlb hn9 HW
          go_wp2_with fail
          obtain ⟨w10, rfl⟩ : ∃ x : World, x = w9 := ⟨_, rfl⟩
          go_loopw [12, 13] (fun vf vi wr => ∃ j f : Nat, vf = .int .i64 (f : Int) ∧ vi = .int .i64 (j : Int) ∧ j + 24 ≤ n9 ∧ f ≤ 1 ∧ w10 = wr ∧ Hid (f = if 17 < j then 1 else 0)) (fun _ vi _ => n9 - (intOf vi).toNat)
          case atStart => exact ⟨0, 0, rfl, rfl, by omega, by omega, rfl, rfl⟩
          case round =>
            obtain ⟨j, f, rfl, rfl, hj, hf, rfl, HF⟩ := hrel
            by_cases hjl : j + 25 ≤ n9
            · have hj1 : (j : Int) + 25 ≤ (n9 : Int) := by omega
              obtain ⟨a', hsl, hby⟩ := HSL.out j hjl
              have hlen : ((lb.drop j).take 25).length = 25 := by
                have := HLB.out
                rw [List.length_take, List.length_drop]
                omega
              obtain ⟨c', hc'⟩ : ∃ c', c9 - j = c' := ⟨_, rfl⟩
              rw [hc'] at hsl
              have k1 := convN hby c' hlen
              have HSJ := HST.out j
              obtain ⟨s, hs⟩ : ∃ s : ByteArray, (⟨((lb.drop j).take 25).toArray⟩ : ByteArray) = s := ⟨_, rfl⟩
              rw [hs] at k1
              have hse : s.data.toList = (lb.drop j).take 25 := by rw [← hs]
              rw [← hse] at HSJ
              have HSJ := Lib.hid HSJ
              clear hby hlen hc' hs hse
              by_cases hj17 : j = 17
              · have hz : (s.toList == nameQ.toList) = true := by
                  rw [beqS]
                  refine decide_eq_true ?_
                  have h1 := HSJ.out.2 hj17
                  cases s
                  exact congrArg ByteArray.mk (Array.toList_inj.1 h1)
                have HFN : Hid (f + 1 = if 17 < j + 1 then 1 else 0) := Lib.hid (by
                  have h1 := HF.out
                  rw [if_neg (by omega)] at h1
                  rw [if_pos (by omega), h1])
                clear hj17 HSJ
                go_wp2_with fail
                go_roundw
                case rel => exact ⟨j + 1, f + 1, by go_num, by go_num, by omega, by have := HFN.out; split at this <;> omega, trivial, HFN.out⟩
                case measure => simp [intOf]; omega
              · have hz : (s.toList == nameQ.toList) = false := by
                  rw [beqS]
                  refine decide_eq_false (fun e => hj17 (HSJ.out.1 (by rw [e])))
                have HFN : Hid (f = if 17 < j + 1 then 1 else 0) := Lib.hid (by
                  have h1 := HF.out
                  by_cases h2 : 17 < j
                  · rw [if_pos h2] at h1
                    rw [if_pos (by omega), h1]
                  · rw [if_neg h2] at h1
                    rw [if_neg (by omega), h1])
                clear hj17 HSJ
                go_wp2_with fail
                go_roundw
                case rel => exact ⟨j + 1, f, rfl, by go_num, by omega, hf, trivial, HFN.out⟩
                case measure => simp [intOf]; omega
            · have hj1 : ¬ (j : Int) + 25 ≤ (n9 : Int) := by omega
              have hf1 : f = 1 := by
                have h1 := HF.out
                rw [if_pos (by omega)] at h1
                exact h1
              subst hf1
              obtain ⟨x0, x1, x2, x3, x4, x5⟩ := HCE.out w10 HB9.out
              have hN0 : (0 : Int) < (i : Int) := by omega
              have hNM := Lib.hid (rnames_c nameQ al cl w10)
              go_wp2_with fail
              refine hNM.out.mono ?_
              rintro e w11 ⟨⟨a11, c11, rfl⟩, hb11⟩
              have HB11 : Hid (Below w.heap.size w w11) := Lib.hid (below_tr (below_tr HBQ.out HB9.out) hb11)
              clear x0 x1 x2 x3 x4 x5 hb11 hNM
              go_wp2_with fail
              go_ret
              exact ⟨rfl, HB11.out⟩
end Go.Proofs.YtbdankpkdhhlmaaGreat
