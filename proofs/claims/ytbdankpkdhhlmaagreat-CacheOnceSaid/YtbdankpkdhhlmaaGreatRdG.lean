/-
  Bytes cut and compared; how all is read, in plain words; rows of packages that are read. Helper text; the conditions are those typed.
  All is read: the walk. Helper text; the conditions are those typed.
  Read: its deferred closure, and the whole. Helper text; the conditions are those typed.
-/
import Derived.Test.YtbdankpkdhhlmaaGreatRdD
import Derived.Test.YtbdankpkdhhlmaaGreatCEnc
import Derived.Shelf.Bytes.SlEqualAll
import Derived.Laws.DeepNot64
import Derived.Laws.Bits64b
import Derived.Shelf.Bytes.SlSmallAll
import Derived.Test.YtbdankpkdhhlmaaGreatWrE
import Derived.Tactics2
import Derived.Defers
import Derived.Recover
namespace Go.Proofs.YtbdankpkdhhlmaaGreat
set_option linter.unusedVariables false
set_option linter.unusedSimpArgs false
open Go.RowKit Go.Maps Go.Shelf

def intsB (l : List UInt8) : List Int := l.map fun u => (u.toNat : Int)
theorem bytesOf_ints (l : List UInt8) : Lib.bytesOf (intsB l) = l := by
  unfold Lib.bytesOf intsB
  rw [List.map_map]
  have : ((fun n : Int => UInt8.ofNat n.toNat) ∘ fun u : UInt8 => (u.toNat : Int)) = id := by
    funext u
    simp
  rw [this, List.map_id]
theorem BytesAt.ints {w : World} {a : Option Addr} {l : List UInt8} (h : BytesAt w a l) {n : Nat} (hn : l.length = n) : Lib.BytesIn w a n (intsB l) := by
  subst hn
  intro h0
  rcases h with rfl | ⟨b, off, rfl, hc⟩
  · exact absurd h0 (Nat.lt_irrefl 0)
  · refine ⟨b, off, rfl, fun i hi => ?_⟩
    rw [hc i hi]
    simp [intsB, List.getD, hi]
theorem equal_c {w : World} {a a2 : Option Addr} {l m : List UInt8} (h : BytesAt w a l) (h2 : BytesAt w a2 m) {n k : Nat} (hn : l.length = n) (hk : m.length = k) (c c2 : Nat) :
    Calls Tryz.prog 27 #[.slice a n c, .slice a2 k c2] w fun e w' => e = .returned (.bool (l == m)) ∧ w = w' := by
  refine (Any.bytes_Equal_all Tryz.layEqual a a2 n c k c2 (intsB l) (intsB m) w (by simp [intsB, hn]) (by simp [intsB, hk]) (h.ints hn) (h2.ints hk)).mono ?_
  rintro e w' ⟨h1, h3⟩
  rw [bytesOf_ints, bytesOf_ints] at h1
  exact ⟨h1, h3.symm⟩
theorem cutp_yes {w : World} {a a2 : Option Addr} {l : List UInt8} (h : BytesAt w a l) (h2 : BytesAt w a2 magicB) {n : Nat} (hn : l.length = n) {c : Nat} (hc : n ≤ c) (c2 : Nat) (hp : magicB.isPrefixOf l = true) {B : Nat} (hB : ∀ b off s, a = some ⟨b, off, s⟩ → b < B) :
    Calls Tryz.prog 48 #[.slice a n c, .slice a2 9 c2] w fun e w' => (∃ a', e = .returned (.tuple #[.slice a' (n - 9) (c - 9), .bool true]) ∧ BytesAt w a' (l.drop 9) ∧ ∀ b off s, a' = some ⟨b, off, s⟩ → b < B) ∧ w = w' := by
  refine (Any.bytes_CutPrefix_all Tryz.layCutPrefix a a2 n c 9 c2 (intsB l) (intsB magicB) w (by simp [intsB, hn]) (by rfl) hc (h.ints hn) (h2.ints rfl)).mono ?_
  rintro e w' ⟨h1, h3⟩
  rw [bytesOf_ints, bytesOf_ints] at h1
  refine ⟨?_, h3.symm⟩
  have hpx : Lib.hasPrefix l magicB = true := hp
  have hl9 : 9 ≤ l.length := by
    have := List.IsPrefix.length_le (List.isPrefixOf_iff_prefix.1 hp)
    exact this
  rcases h with h0 | ⟨b, off, rfl, hcell⟩
  · subst h0
    cases hp
  · have ev : Lib.trimPrefixV (some ⟨b, off, none⟩) n c (intsB l) (intsB magicB) = Lib.bytesTrimPrefix b off n c (intsB l) (intsB magicB) := rfl
    rw [ev] at h1
    unfold Lib.bytesTrimPrefix at h1
    rw [bytesOf_ints, bytesOf_ints, if_pos hpx, hpx] at h1
    refine ⟨_, h1, ?_, fun b2 off2 s2 e2 => ?_⟩
    · by_cases hd : l.drop 9 = []
      · exact .inl hd
      · have hl : 9 < l.length := by
          rcases Nat.lt_or_ge 9 l.length with h | h
          · exact h
          · exact absurd (List.drop_eq_nil_of_le h) hd
        rw [if_neg (by show ¬ c = 9; omega)]
        refine .inr ⟨b, off + 9, rfl, fun i hi => ?_⟩
        rw [List.length_drop] at hi
        rw [Nat.add_assoc, hcell (9 + i) (by omega)]
        simp [List.getD, List.getElem?_drop]
    · split at e2
      · injection e2 with e2
        injection e2 with e2 _ _
        rw [← e2]
        exact hB b off none rfl
      · injection e2 with e2
        injection e2 with e2 _ _
        rw [← e2]
        exact hB b off none rfl
theorem cutp_no {w : World} {a a2 : Option Addr} {l : List UInt8} (h : BytesAt w a l) (h2 : BytesAt w a2 magicB) {n : Nat} (hn : l.length = n) {c : Nat} (hc : n ≤ c) (c2 : Nat) (hp : magicB.isPrefixOf l = false) :
    Calls Tryz.prog 48 #[.slice a n c, .slice a2 9 c2] w fun e w' => (∃ v, e = .returned (.tuple #[v, .bool false])) ∧ w = w' := by
  refine (Any.bytes_CutPrefix_all Tryz.layCutPrefix a a2 n c 9 c2 (intsB l) (intsB magicB) w (by simp [intsB, hn]) (by rfl) hc (h.ints hn) (h2.ints rfl)).mono ?_
  rintro e w' ⟨h1, h3⟩
  rw [bytesOf_ints, bytesOf_ints] at h1
  have hpx : Lib.hasPrefix l magicB = false := hp
  rw [hpx] at h1
  exact ⟨⟨_, h1⟩, h3.symm⟩

/-! ### how all is read -/
def rdRepo (T : List ByteArray) (l : List UInt8) : Option (RepoT × List UInt8) :=
  match rdText T l with
  | none => none
  | some (nm, l) =>
    match rdBig l with
    | none => none
    | some (z, l) =>
      match rdSmall 1 l with
      | none => none
      | some (b, l) =>
        match rdSmall 200 l with
        | none => none
        | some (n, l) => (rdMany (rdPkg T) n l).map fun x => (⟨nm, unzig z, decide (b = 1), x.1⟩, x.2)
def rdRepos (T : List ByteArray) (l : List UInt8) : Option (List RepoT × List UInt8) :=
  match rdSmall 8 l with
  | none => none
  | some (n, l) => rdMany (rdRepo T) n l
def rdTab (l : List UInt8) : Option (List ByteArray × List UInt8) :=
  match rdNum l with
  | none => none
  | some (n, l) => rdMany rdTxt n l
/-- The kind, the repositories. -/
def rdAll (l : List UInt8) : Option (Nat × List RepoT) :=
  if magicB.isPrefixOf l then
    match rdSmall 2 (l.drop 9) with
    | none => none
    | some (k, l) =>
      if k = 0 then none
      else
        match rdTab l with
        | none => none
        | some (T, l) => (rdRepos T l).map fun x => (k, x.1)
  else none
theorem takeB_lt : ∀ (l : List UInt8) (i acc : Nat), i ≤ 9 → acc < 2 ^ (7 * i) → (takeB i acc l).1 < 18446744073709551616
  | [], i, acc, _, _ => by unfold takeB; decide
  | b :: r, i, acc, hi, ha => by
    unfold takeB
    have hb := b.toNat_lt
    by_cases h1 : i = 9 ∧ 1 < b.toNat
    · rw [if_pos h1]; decide
    · rw [if_neg h1]
      have hcase : i = 0 ∨ i = 1 ∨ i = 2 ∨ i = 3 ∨ i = 4 ∨ i = 5 ∨ i = 6 ∨ i = 7 ∨ i = 8 ∨ i = 9 := by omega
      by_cases h2 : b.toNat < 128
      · rw [if_pos h2]
        by_cases h3 : b.toNat = 0 ∧ 0 < i
        · rw [if_pos h3]; decide
        · rw [if_neg h3]
          show acc + b.toNat * 2 ^ (7 * i) < _
          rcases hcase with rfl | rfl | rfl | rfl | rfl | rfl | rfl | rfl | rfl | rfl <;> simp at ha ⊢ <;> omega
      · rw [if_neg h2]
        have h9 : i ≤ 8 := by omega
        refine takeB_lt r (i + 1) _ (by omega) ?_
        rcases hcase with rfl | rfl | rfl | rfl | rfl | rfl | rfl | rfl | rfl | rfl <;> simp at ha ⊢ <;> omega
theorem rdBig_lt {l r : List UInt8} {n : Nat} (h : rdBig l = some (n, r)) : n < 18446744073709551616 := by
  unfold rdBig at h
  split at h
  · cases h
    exact takeB_lt l 0 0 (by omega) (by decide)
  · cases h

/-- One more, where the reader alone has turned. -/
theorem PkgRow.step2 {w wa w9 : World} {L : Nat} {vo : Value} {i : Nat} {ps : List PkgT} {p : PkgT} {xs : List Value} (h : PkgRow w L vo i ps xs) (hpl : ps.length = i) (hL : L ≤ w.heap.size) (hsz : w.heap.size ≤ wa.heap.size) (hbk : ∀ b, L ≤ b → b < w.heap.size → wa.heap[b]? = w.heap[b]?) {v : Fin 7 → Value} {vf : Value} (hv : PkgV wa (New w.heap.size wa) p v vf) {g cap : Nat}
    (hown : w9.ownsRow L 45 12 (.slice (some ⟨g, 0, none⟩) (i + 1) cap) (i + 1) (xs ++ pkgCells p.name p.evr p.arch p.vendor v vf)) (hgrow : wa.grownBy w9 vo.ownBlock) (hat : vo.ownBlock = some g ∨ g = wa.heap.size) :
    PkgRow w9 L (.slice (some ⟨g, 0, none⟩) (i + 1) cap) (i + 1) (ps ++ [p]) (xs ++ pkgCells p.name p.evr p.arch p.vendor v vf) := by
  have hxl : xs.length = i * 12 := h.row.1
  refine ⟨hown, fun j hj hji => ?_⟩
  have hgb : ∀ b, (Value.slice (some ⟨g, 0, none⟩) (i + 1) cap).ownBlock ≠ some b ↔ b ≠ g := fun b => by
    show some g ≠ some b ↔ b ≠ g
    constructor
    · intro h e; exact h (by rw [e])
    · intro h e; exact h (Option.some.inj e).symm
  by_cases e : j = i
  · subst e
    have ep : (ps ++ [p])[j] = p := by
      simp only [← hpl]
      simp
    rw [ep]
    have hne : ∀ b, New w.heap.size wa b → vo.ownBlock ≠ some b ∧ b ≠ g := fun b hb' => by
      refine ⟨fun e => ?_, fun e => ?_⟩
      · have := (h.row.lt b e).2
        have := hb'.1
        omega
      · subst e
        rcases hat with h1 | h1
        · have := (h.row.lt b h1).2
          have := hb'.1
          omega
        · have := hb'.2.lt
          omega
    refine ⟨v, vf, hv.keep (fun b hb' => ⟨⟨by have := hb'.1; omega, hb'.2.keep (hgrow.block b hb'.2.lt (fun e => (hne b hb').1 e.symm))⟩, (hgb b).2 (hne b hb').2⟩) (fun b hb' hl => hgrow.block b hl (fun e => (hne b hb').1 e.symm)), fun r u hr => ?_⟩
    rw [List.getElem?_append_right (by omega), hxl, show j * 12 + r - j * 12 = r by omega]
    exact hr
  · have hj2 : j < ps.length := by omega
    have ep : (ps ++ [p])[j] = ps[j] := List.getElem_append_left hj2
    rw [ep]
    obtain ⟨v2, vf2, h1, h2⟩ := h.has j hj2 (by omega)
    have hk : ∀ b, New L w b ∧ vo.ownBlock ≠ some b → w9.heap[b]? = w.heap[b]? := fun b hb' =>
      (hgrow.block b (Nat.lt_of_lt_of_le hb'.1.2.lt hsz) (fun e => hb'.2 e.symm)).trans (hbk b hb'.1.1 hb'.1.2.lt)
    have hng : ∀ b, New L w b ∧ vo.ownBlock ≠ some b → b ≠ g := fun b hb' e => by
      subst e
      rcases hat with h1 | h1
      · exact hb'.2 h1
      · have := hb'.1.2.lt
        omega
    refine ⟨v2, vf2, h1.keep (fun b hb' => ⟨⟨hb'.1.1, hb'.1.2.keep (hk b hb')⟩, (hgb b).2 (hng b hb')⟩) (fun b hb' _ => hk b hb'), fun r u hr => ?_⟩
    have hr12 : r < 12 := (List.getElem?_eq_some_iff.1 hr).1
    rw [List.getElem?_append_left (by omega)]
    exact h2 r u hr
/-- The pool's repositories, each of which was taken. -/
inductive BuiltOK : List RepoT → List RepoH → List KeptT → List (Nat × Nat) → Prop
  | nil : BuiltOK [] [] [] []
  | add {rl rs ks ats} (r : RepoT) (h : BuiltOK rl rs ks ats) (e : addErr rs ks r = 0) : BuiltOK (rl ++ [r]) (rs ++ [⟨r.name, r.prio, r.inst⟩]) (ks ++ r.pkgs.map (fun p => (⟨p, rs.length⟩ : KeptT))) (ats ++ (List.range r.pkgs.length).map fun i => (rl.length, i))
theorem BuiltOK.built {rl rs ks ats} (h : BuiltOK rl rs ks ats) : Built rl rs ks ats := by
  induction h with
  | nil => exact .nil
  | add r h e ih => exact ih.add r
theorem xor_comm_i64 (a b : Int) : bits .xor .i64 a b = bits .xor .i64 b a := by
  show IntKind.i64.wrap ((BitVec.ofInt 64 a ^^^ BitVec.ofInt 64 b).toNat : Int) = IntKind.i64.wrap ((BitVec.ofInt 64 b ^^^ BitVec.ofInt 64 a).toNat : Int)
  rw [BitVec.xor_comm]
theorem xor_zero_i64 (a : Nat) (ha : a < 9223372036854775808) : bits .xor .i64 (a : Int) 0 = (a : Int) := by
  show IntKind.i64.wrap ((BitVec.ofInt 64 (a : Int) ^^^ BitVec.ofInt 64 0).toNat : Int) = _
  have h0 : BitVec.ofInt 64 0 = 0#64 := rfl
  rw [h0, BitVec.xor_zero, BitVec.ofInt_natCast, BitVec.toNat_ofNat, Nat.mod_eq_of_lt (by omega)]
  exact wrapI (by omega)
theorem unzig_bits {z : Nat} (hz : z < 18446744073709551616) : bits BinOp.xor IntKind.i64 ((z : Int) / 2) (wrap64 (-wrap64 (bits BinOp.and IntKind.u64 (z : Int) 1))) = unzig z := by
  have e1 : bits BinOp.and IntKind.u64 (z : Int) 1 = ((z % 2 : Nat) : Int) := by
    have := bits_and_u64_nat z 1 hz (by omega)
    rw [Nat.and_one_is_mod] at this
    exact this
  rw [e1]
  have e2 : (z : Int) / 2 = ((z / 2 : Nat) : Int) := by omega
  rw [e2]
  unfold unzig
  by_cases h : z % 2 = 0
  · rw [if_pos h, h]
    have e3 : wrap64 (-wrap64 ((0 : Nat) : Int)) = 0 := by unfold wrap64; omega
    rw [e3]
    exact xor_zero_i64 _ (by omega)
  · have h1 : z % 2 = 1 := by omega
    rw [if_neg h, h1]
    have e3 : wrap64 (-wrap64 ((1 : Nat) : Int)) = -1 := by unfold wrap64; omega
    rw [e3, xor_comm_i64, i64_not _ (by omega)]
    omega
end Go.Proofs.YtbdankpkdhhlmaaGreat
namespace Go.Proofs.YtbdankpkdhhlmaaGreat
set_option linter.unusedVariables false
set_option linter.unusedSimpArgs false
open Go.RowKit Go.Maps

def AllPost (w : World) (R : Nat) (l : List UInt8) (e : Ending) (w' : World) : Prop :=
  MMv (XR R) w (XR R) w' ∧ ((e = .panicked oddC ∧ ∀ kd rl rs ks ats, rdAll l = some (kd, rl) → ¬ BuiltOK rl rs ks ats) ∨
    ∃ (kd : Nat) (rl : List RepoT) (rs : List RepoH) (ks : List KeptT) (ats : List (Nat × Nat)) (role : Nat → Role) (P M : Nat) (vr va : Value) (lv : ByteArray → Value), e = .returned (.pointer (some ⟨P, 0, none⟩)) ∧ rdAll l = some (kd, rl) ∧ BuiltOK rl rs ks ats ∧ (kd = 1 ∨ kd = 2) ∧ PoolIn w' w.heap.size role P M vr va lv (kd : Int) rs ks (ks.map fun k => k.pkg.name))

theorem BuiltOK.det {rl : List RepoT} {rs : List RepoH} {ks : List KeptT} {ats : List (Nat × Nat)} (h : BuiltOK rl rs ks ats) : rs = rl.map (fun r => (⟨r.name, r.prio, r.inst⟩ : RepoH)) ∧ ∀ rs' ks' ats', BuiltOK rl rs' ks' ats' → ks' = ks := by
  induction h with
  | nil => exact ⟨rfl, fun rs' ks' ats' h' => by
      generalize hx : ([] : List RepoT) = x at h'
      cases h' with
      | nil => rfl
      | add r h e => simp at hx⟩
  | add r h e ih =>
    rename_i rl rs ks ats
    obtain ⟨ih1, ih2⟩ := ih
    refine ⟨by rw [List.map_append, ih1]; rfl, fun rs' ks' ats' h' => ?_⟩
    generalize hx : rl ++ [r] = x at h'
    cases h' with
    | nil => simp at hx
    | add r2 h2 e2 =>
      obtain ⟨h5, h6⟩ := List.append_inj' hx rfl
      injection h6 with h6 _
      subst h5 h6
      have h7 := ih2 _ _ _ h2
      have h8 := h2.built.len.1
      have h9 := h.built.len.1
      rw [h7]
      congr 2
      funext p
      rw [h8, h9]
theorem BuiltOK.front : ∀ (more : List RepoT) {rl : List RepoT} {rs : List RepoH} {ks : List KeptT} {ats : List (Nat × Nat)}, BuiltOK (rl ++ more) rs ks ats → ∃ rs' ks' ats', BuiltOK rl rs' ks' ats' := by
  intro more
  induction more with
  | nil => intro rl rs ks ats h; rw [List.append_nil] at h; exact ⟨_, _, _, h⟩
  | cons r more ih =>
    intro rl rs ks ats h
    rw [show rl ++ r :: more = (rl ++ [r]) ++ more by simp] at h
    obtain ⟨rs1, ks1, ats1, h1⟩ := ih h
    generalize hx : rl ++ [r] = x at h1
    cases h1 with
    | nil => simp at hx
    | add r2 h2 e2 =>
      obtain ⟨h5, h6⟩ := List.append_inj' hx rfl
      rw [← h5] at h2
      exact ⟨_, _, _, h2⟩
theorem BuiltOK.last {rl : List RepoT} {r : RepoT} {rs rs2 : List RepoH} {ks ks2 : List KeptT} {ats ats2 : List (Nat × Nat)} (h : BuiltOK (rl ++ [r]) rs2 ks2 ats2) (h1 : BuiltOK rl rs ks ats) : addErr rs ks r = 0 := by
  generalize hx : rl ++ [r] = x at h
  cases h with
  | nil => simp at hx
  | add r2 h2 e2 =>
    obtain ⟨h5, h6⟩ := List.append_inj' hx rfl
    injection h6 with h6 _
    subst h5 h6
    rw [← h1.det.1.trans h2.det.1.symm] at e2
    rw [← h1.det.2 _ _ _ h2]
    exact e2
theorem cmb_front {α : Type} {ys zs : List α} {o : Option (List α × List UInt8)} {q : List UInt8} (h : cmb ys o = some (zs, q)) : ∃ more, zs = ys ++ more := by
  cases o with
  | none => cases h
  | some p =>
    cases h
    exact ⟨p.1, rfl⟩
/-- A slice up to a place. -/
theorem slice_to {w : World} {ab : Option Addr} {r : List UInt8} (hby : BytesAt w ab r) {cb m : Nat} (hm : m ≤ r.length) (hc : r.length ≤ cb) :
    ∃ a', (∀ W, (Instr.slice 23 (.slice ab r.length cb) none (some (.int .i64 (m : Int))) none).run Tryz.prog W = .ok (.slice a' m cb) W) ∧ (BytesAt w a' (r.take m) ∧ ∀ W : World, (∀ b off s, ab = some ⟨b, off, s⟩ → W.heap[b]? = w.heap[b]?) → BytesAt W a' (r.take m)) := by
  have hrun : ∀ W, (Instr.slice 23 (.slice ab r.length cb) none (some (.int .i64 (m : Int))) none).run Tryz.prog W = .ok (.slice (if cb = 0 then ab else ab.map (·.add 0)) m cb) W := fun W => by
    rw [run_slice_h (P := Tryz.prog) W 23 ab r.length cb (by kernel_rfl) .i64 (m : Int) (by omega) (by omega)]
    rw [show Tryz.prog.elem 23 = 5 by kernel_rfl, Tryz.sizeOf5 W]
    simp [Result.andThen, sliced]
  have hgen : ∀ W : World, (∀ b off s, ab = some ⟨b, off, s⟩ → W.heap[b]? = w.heap[b]?) → BytesAt W (if cb = 0 then ab else ab.map (·.add 0)) (r.take m) := fun W hW => by
    by_cases h0 : r.take m = []
    · exact .inl h0
    · rcases hby with h | ⟨b, off, rfl, hcell⟩
      · subst h; simp at h0
      · have hm0 : m ≠ 0 := fun e => h0 (by rw [e]; rfl)
        refine .inr ⟨b, off, ?_, fun i hi => ?_⟩
        · rw [if_neg (by omega)]
          show some ((⟨b, off, none⟩ : Addr).add 0) = _
          rw [addr_add]
          rfl
        · rw [List.length_take] at hi
          rw [(World.cell?_of_block (w := w) (hW b off none rfl)), hcell i (by omega)]
          simp [List.getD, List.getElem?_take, show i < m by omega]
  exact ⟨_, hrun, hgen w (fun _ _ _ _ => rfl), hgen⟩
/-- On the way through the table. -/
structure TabAt (w0 wp w : World) (B R Lt : Nat) (vt : Value) (l : List UInt8) (T : List ByteArray) : Prop where
  rd : RdS w B R vt l T
  mv : MMv (XR R) w0 (XR R) w
  low : ∀ b, b < Lt → b ≠ R → w.heap[b]? = wp.heap[b]?
  sz : Lt ≤ w.heap.size
  vl : ∀ b, vt.ownBlock = some b → Lt ≤ b
  rl : R < w0.heap.size
  bl : B ≤ w0.heap.size
  l0 : w0.heap.size ≤ Lt
section
variable {w0 wp w w' : World} {B R Lt : Nat} {vt : Value} {l r : List UInt8} {T : List ByteArray}
theorem TabAt.call (h : TabAt w0 wp w B R Lt vt l T) (hr : RdS w' B R vt r T) (hm : MMv (XR R) w (XR R) w') : TabAt w0 wp w' B R Lt vt r T :=
  ⟨hr, h.mv.trans hm, fun b hb hne => (hm.block b (Nat.lt_of_lt_of_le hb h.sz) hne).1.trans (h.low b hb hne), Nat.le_trans h.sz hm.size, h.vl, h.rl, h.bl, h.l0⟩
theorem TabAt.below (h : TabAt w0 wp w B R Lt vt l T) (hb : Below w.heap.size w w') : TabAt w0 wp w' B R Lt vt l T := h.call (h.rd.below hb) (.of_below hb)
/-- A text more. -/
theorem TabAt.more {w2 : World} {s : ByteArray} {g cap : Nat} (h : TabAt w0 wp w B R Lt vt l T) (hs : s.size ≤ maxLen) (hT : T.length + 1 ≤ 1073741824) (hg : w.grownBy w2 vt.ownBlock) (hrow : w2.ownsRow B 9 1 (.slice (some ⟨g, 0, none⟩) (T.length + 1) cap) (T.length + 1) ((T ++ [s]).map .string)) (hat : vt.ownBlock = some g ∨ g = w.heap.size) :
    TabAt w0 wp (w2.setCell ⟨R, 1, none⟩ (.slice (some ⟨g, 0, none⟩) (T.length + 1) cap)) B R Lt (.slice (some ⟨g, 0, none⟩) (T.length + 1) cap) l (T ++ [s]) := by
  have hgl : Lt ≤ g := by
    rcases hat with h1 | h1
    · exact h.vl g h1
    · rw [h1]; exact h.sz
  have hR := h.rl
  have hl0 := h.l0
  have hlow : ∀ b, b < Lt → w2.heap[b]? = w.heap[b]? := fun b hb => hg.block b (Nat.lt_of_lt_of_le hb h.sz) (fun e => by have := h.vl b e.symm; omega)
  obtain ⟨ab, cb, r1, r2, r3, r4, r5, r6⟩ := h.rd.ex
  have hne : g ≠ R := by omega
  refine ⟨⟨⟨ab, cb, (r1.to (hlow R (by omega))).set 1 _, (r2.keep fun b off s e => ?_), r3, r4, ?_, fun e => hne (Option.some.inj e)⟩, h.rd.lo, h.rd.len, ?_, ?_⟩, ?_, fun b hb hnR => ?_, ?_, fun b e => ?_, hR, h.bl, hl0⟩
  · have h1 := r4 b off s e
    have h2 := h.rd.lo
    have h3 := h.bl
    exact (set_other _ (by omega)).trans (hlow b (by omega))
  · rw [List.length_append, List.length_singleton]
    exact ownsRow_to hrow fun b hb => set_other _ (by cases hb; exact hne)
  · rw [List.length_append, List.length_singleton]
    exact hT
  · intro t ht
    rcases List.mem_append.1 ht with ht | ht
    · exact h.rd.tsz t ht
    · rw [List.mem_singleton] at ht
      rw [ht]
      exact hs
  · have hm := h.mv
    refine ⟨hg.os.trans hm.os, hg.tape.trans hm.tape, hg.output.trans hm.output, by rw [set_size]; exact Nat.le_trans hm.size hg.size, fun b hb hx => ⟨?_, hx⟩⟩
    rw [set_other _ (fun e => hx e), hlow b (by omega)]
    exact (hm.block b hb hx).1
  · rw [set_other _ hnR, hlow b hb]
    exact h.low b hb hnR
  · rw [set_size]
    exact Nat.le_trans h.sz hg.size
  · cases e
    exact hgl
end

/-- On the way through the repositories. -/
structure RepAt (w0 w : World) (B R : Nat) (vt : Value) (l : List UInt8) (T : List ByteArray) (role : Nat → Role) (P M : Nat) (vr va : Value) (lv : ByteArray → Value) (kd : Int) (rl : List RepoT) (rs : List RepoH) (ks : List KeptT) (ats : List (Nat × Nat)) : Prop where
  rd : RdS w B R vt l T
  mv : MMv (XR R) w0 (XR R) w
  pool : PoolIn w w0.heap.size role P M vr va lv kd rs ks (ks.map fun k => k.pkg.name)
  vfree : ∀ b, vt.ownBlock = some b → role b = .free
  rr : R < w0.heap.size
  bl : B ≤ w0.heap.size
  built : BuiltOK rl rs ks ats
  rlen : rs.length ≤ 8
  klen : ks.length ≤ 200
section
variable {w0 w w' : World} {B R : Nat} {vt : Value} {l r : List UInt8} {T : List ByteArray} {role : Nat → Role} {P M : Nat} {vr va : Value} {lv : ByteArray → Value} {kd : Int} {rl : List RepoT} {rs : List RepoH} {ks : List KeptT} {ats : List (Nat × Nat)} {D : Nat} {cs : List Value}
theorem RepAt.call (h : RepAt w0 w B R vt l T role P M vr va lv kd rl rs ks ats) (hr : RdS w' B R vt r T) (hm : MMv (XR R) w (XR R) w') : RepAt w0 w' B R vt r T role P M vr va lv kd rl rs ks ats :=
  ⟨hr, h.mv.trans hm, h.pool.keep hm.size (fun b hb => (hm.block b (h.pool.hi b hb) (fun e => by
    have e2 : b = R := e
    have := h.pool.lo b hb
    have := h.rr
    omega)).1), h.vfree, h.rr, h.bl, h.built, h.rlen, h.klen⟩
theorem RepAt.below (h : RepAt w0 w B R vt l T role P M vr va lv kd rl rs ks ats) (hb : Below w.heap.size w w') : RepAt w0 w' B R vt l T role P M vr va lv kd rl rs ks ats := h.call (h.rd.below hb) (.of_below hb)
theorem RepAt.role_free (h : RepAt w0 w B R vt l T role P M vr va lv kd rl rs ks ats) {b : Nat} {M1 : Nat → Prop} (hb : w'.heap.size ≤ b) (hm : MMv M1 w M1 w') : role b = .free := by
  by_cases e : role b = .free
  · exact e
  · have h1 := h.pool.hi b e
    have h2 := hm.size
    omega
/-- A block of the call's own beside. -/
structure BoxAt (w0 w : World) (B R : Nat) (vt : Value) (l : List UInt8) (T : List ByteArray) (role : Nat → Role) (P M : Nat) (vr va : Value) (lv : ByteArray → Value) (kd : Int) (rl : List RepoT) (rs : List RepoH) (ks : List KeptT) (ats : List (Nat × Nat)) (D : Nat) (cs : List Value) : Prop where
  ra : RepAt w0 w B R vt l T role P M vr va lv kd rl rs ks ats
  box : BoxN w D cs 40
  ld : w0.heap.size ≤ D
  fr : role D = .free
  vd : vt.ownBlock ≠ some D
theorem BoxAt.call (h : BoxAt w0 w B R vt l T role P M vr va lv kd rl rs ks ats D cs) (hr : RdS w' B R vt r T) (hm : MMv (XR R) w (XR R) w') : BoxAt w0 w' B R vt r T role P M vr va lv kd rl rs ks ats D cs :=
  ⟨h.ra.call hr hm, h.box.to (hm.block D h.box.lt (fun e => by
    have e2 : D = R := e
    have := h.ld
    have := h.ra.rr
    omega)).1, h.ld, h.fr, h.vd⟩
theorem BoxAt.low {L : Nat} (h : BoxAt w0 w B R vt l T role P M vr va lv kd rl rs ks ats D cs) (hb : Below L w w') (hD : D < L) (hro : ∀ b, role b ≠ .free → b < L) (hv : ∀ b, vt.ownBlock = some b → b < L) (hR : R < L) (hL : w0.heap.size ≤ L) : BoxAt w0 w' B R vt l T role P M vr va lv kd rl rs ks ats D cs :=
  ⟨⟨h.ra.rd.low hR hv hb, h.ra.mv.low (hb.mono hL), h.ra.pool.keep hb.size (fun b hr => hb.block b (hro b hr)), h.ra.vfree, h.ra.rr, h.ra.bl, h.ra.built, h.ra.rlen, h.ra.klen⟩, h.box.to (hb.block D hD), h.ld, h.fr, h.vd⟩
theorem BoxAt.below (h : BoxAt w0 w B R vt l T role P M vr va lv kd rl rs ks ats D cs) (hb : Below w.heap.size w w') : BoxAt w0 w' B R vt l T role P M vr va lv kd rl rs ks ats D cs := h.call (h.ra.rd.below hb) (.of_below hb)
theorem BoxAt.set (h : BoxAt w0 w B R vt l T role P M vr va lv kd rl rs ks ats D cs) (j : Nat) (v : Value) : BoxAt w0 (w.setCell ⟨D, j, none⟩ v) B R vt l T role P M vr va lv kd rl rs ks ats D (cs.set j v) := by
  have hlo := h.ra.rd.lo
  have hld := h.ld
  have hrr := h.ra.rr
  have hrd : RdS (w.setCell ⟨D, j, none⟩ v) B R vt l T := h.ra.rd.to (set_other v (by omega)) (fun b hb => set_other v (by omega)) (fun b hb => set_other v (fun e => h.vd (by rw [← e]; exact hb)))
  have hb : Below w0.heap.size w (w.setCell ⟨D, j, none⟩ v) := below_sc (Below.refl _ _) h.ld _ _
  exact ⟨⟨hrd, h.ra.mv.low hb, h.ra.pool.keep (by rw [set_size]; exact Nat.le_refl _) (fun b hr => set_other v (fun e => hr (by rw [e]; exact h.fr))), h.ra.vfree, hrr, h.ra.bl, h.ra.built, h.ra.rlen, h.ra.klen⟩, h.box.set j v, hld, h.fr, h.vd⟩
end

set_option maxHeartbeats 16000000 in
set_option maxRecDepth 100000 in
theorem all_rd (w : World) (B R : Nat) (l : List UInt8) (h : RdS w B R (.slice none 0 0) l []) :
    Calls Tryz.prog 25 #[.pointer (some ⟨R, 0, none⟩)] w (AllPost w R l) := by
  obtain ⟨POST, hPOST⟩ : ∃ POST, AllPost w R l = POST := ⟨_, rfl⟩
  rw [hPOST]
  have HPO := Lib.hid hPOST
  have HNO : Hid (rdAll l = none → ∀ w', MMv (XR R) w (XR R) w' → POST (.panicked oddC) w') := Lib.hid fun e w' hm => by
    rw [← HPO.out]
    exact ⟨hm, .inl ⟨rfl, fun kd rl rs ks ats h2 => by rw [e] at h2; cases h2⟩⟩
  obtain ⟨ab, cb, h1, h2, h3, h4, _, _⟩ := h.ex
  obtain ⟨n, hn⟩ : ∃ n, l.length = n := ⟨_, rfl⟩
  rw [hn] at h1 h3
  have HN := Lib.hid hn
  have c0 := h1.cell (j := 0) rfl
  have kc : (convert 23 23 (.slice (some ⟨w.heap.size, 0, none⟩) 9 9)).run Tryz.prog (w.alloc (.cells #[.int .u8 99, .int .u8 104, .int .u8 97, .int .u8 110, .int .u8 100, .int .u8 108, .int .u8 101, .int .u8 114, .int .u8 49] 5)) = .ok (.slice (some ⟨w.heap.size, 0, none⟩) 9 9) (w.alloc (.cells #[.int .u8 99, .int .u8 104, .int .u8 97, .int .u8 110, .int .u8 100, .int .u8 108, .int .u8 101, .int .u8 114, .int .u8 49] 5 (9, 10))) := Lib.run_convert_bytes_const (P := Tryz.prog) w 23 5 #[.int .u8 99, .int .u8 104, .int .u8 97, .int .u8 110, .int .u8 100, .int .u8 108, .int .u8 101, .int .u8 114, .int .u8 49] 9 9 Tryz.underlying23 Tryz.underlying5
  obtain ⟨wz, ez⟩ : ∃ wz, w.alloc (.cells #[.int .u8 99, .int .u8 104, .int .u8 97, .int .u8 110, .int .u8 100, .int .u8 108, .int .u8 101, .int .u8 114, .int .u8 49] 5 (9, 10)) = wz := ⟨_, rfl⟩
  have HBZ : Hid (Below w.heap.size w wz ∧ BytesAt wz (some ⟨w.heap.size, 0, none⟩) magicB) := by
    rw [← ez]
    exact ⟨below1 _ _, magic_at w⟩
  have HRZ := Lib.hid (h.below HBZ.out.1)
  have hRB := h.lt
  have hBL : B ≤ w.heap.size := Nat.le_trans h.lo (Nat.le_of_lt h.lt)
  have hln := h.len
  rw [hn] at hln
  rw [ez] at kc
  cases hp : magicB.isPrefixOf l with
  | false =>
    have HE : Hid (rdAll l = none) := Lib.hid <| by
      unfold rdAll
      rw [hp]
      rfl
    have hC := Lib.hid (cutp_no (h2.below HBZ.out.1) HBZ.out.2 hn h3 9 hp)
    clear h1 h2 h3 h4 h hn hp hPOST
    go_enter Tryz.func25, Tryz.ntmps25
    go_wp2_with fail
    refine hC.out.mono ?_
    rintro e w1 ⟨⟨v, rfl⟩, hw⟩
    subst hw
    go_wp2_with fail
    refine (need_no wz).mono ?_
    rintro e w1 ⟨rfl, hw⟩
    subst hw
    exact ⟨rfl, HNO.out HE.out _ (.of_below HBZ.out.1)⟩
  | true =>
    have hC := Lib.hid (cutp_yes (h2.below HBZ.out.1) HBZ.out.2 hn h3 9 hp h4)
    have h9 : 9 ≤ n := by
      rw [← hn]
      exact List.IsPrefix.length_le (List.isPrefixOf_iff_prefix.1 hp)
    have HP := Lib.hid hp
    have hc9 : n - 9 ≤ cb - 9 := by omega
    have hBX := (HRZ.out.ex)
    have HBOX : Hid (wz.cell? ⟨R, 0, none⟩ = some (.slice ab n cb) ∧ wz.frozen? ⟨R, 0, none⟩ = false) := Lib.hid <| by
      have hb := h1.below HBZ.out.1
      exact ⟨hb.cell (j := 0) rfl, hb.frozen 0⟩
    clear h1 h2 h3 h4 h hn hp hPOST hBX
    go_enter Tryz.func25, Tryz.ntmps25
    go_wp2_with fail
    refine hC.out.mono ?_
    rintro e w1 ⟨⟨a', rfl, hby, hlt⟩, hw⟩
    subst hw
    have HS1 := Lib.hid (HRZ.out.set hby (cb := cb - 9) (n := n - 9) (by rw [List.length_drop, HN.out]; exact hc9) hlt (by rw [List.length_drop, HN.out]; omega) (by rw [List.length_drop, HN.out]))
    clear hby hlt hC
    go_wp2_with fail
    refine (need_yes wz).mono ?_
    rintro e w1 ⟨rfl, hw⟩
    subst hw
    obtain ⟨d0, f0⟩ := HBOX.out
    go_upto_region 4 with fail
    obtain ⟨w1, e1⟩ : ∃ w1, wz.setCell ⟨R, 0, none⟩ (.slice a' (n - 9) (cb - 9)) = w1 := ⟨_, rfl⟩
    rw [e1] at HS1 ⊢
    have HM1 : Hid (MMv (XR R) w (XR R) w1) := (MMv.of_below HBZ.out.1).trans HS1.out.2
    clear e1 kc ez c0 d0 f0 HBOX
    have hN : Calls Tryz.prog 49 #[.pointer (some ⟨R, 0, none⟩), .int .i64 2] w1 (RdPost w1 B R (.slice none 0 0) [] (rdSmall 2 (l.drop 9)) isI) := small_c HS1.out.1 2 (by decide)
    cases hq : rdSmall 2 (l.drop 9) with
    | none =>
      have HE : Hid (rdAll l = none) := Lib.hid <| by
        unfold rdAll
        rw [if_pos HP.out, hq]
      rw [hq] at hN
      replace hN := Lib.hid hN
      clear hq
      go_wp2_with fail
      refine hN.out.mono ?_
      rintro e w2 ⟨rfl, hm⟩
      exact ⟨rfl, HNO.out HE.out _ (HM1.out.trans hm)⟩
    | some y =>
      obtain ⟨k, q⟩ := y
      have hk2 := rdSmall_le hq
      rw [hq] at hN
      replace hN := Lib.hid hN
      have HQ := Lib.hid hq
      clear hq
      go_wp2_with fail
      refine hN.out.mono ?_
      rintro e w2 ⟨⟨v2, rfl, hv2⟩, hs2, hm2⟩
      have hv2' : v2 = .int .i64 (k : Int) := hv2
      subst hv2'
      have HM2 : Hid (MMv (XR R) w (XR R) w2) := HM1.out.trans hm2
      have HS2 := Lib.hid hs2
      clear hs2 hm2 hv2 hN
      by_cases hk0 : k = 0
      · subst hk0
        have HE : Hid (rdAll l = none) := Lib.hid <| by
          unfold rdAll
          rw [if_pos HP.out, HQ.out]
          rfl
        have hNew : Hid (Calls Tryz.prog 35 #[.int .i64 0] w2 fun e w' => e = .returned (.tuple #[.pointer none, .int .i64 1]) ∧ w2 = w') := Lib.hid (new_no 0 (by decide) (by decide) w2)
        go_wp2_with fail
        refine hNew.out.mono ?_
        rintro e w3 ⟨rfl, hw⟩
        subst hw
        go_wp2_with fail
        refine (need_no w2).mono ?_
        rintro e w3 ⟨rfl, hw⟩
        subst hw
        exact ⟨rfl, HNO.out HE.out _ HM2.out⟩
      · have hkk : (k : Int) = 1 ∨ (k : Int) = 2 := by omega
        have hsz2 : w.heap.size ≤ w2.heap.size := HM2.out.size
        have hNew := Lib.hid (new_c (k : Int) hkk w.heap.size w2 hsz2)
        have HKK : Hid (k = 1 ∨ k = 2) := Lib.hid (by omega)
        have HRA : Hid (rdAll l = match rdTab q with
          | none => none
          | some (T, l) => (rdRepos T l).map fun x => (k, x.1)) := Lib.hid <| by
          unfold rdAll
          rw [if_pos HP.out, HQ.out]
          simp only
          rw [if_neg hk0]
          try rfl
        clear hk0 hkk
        go_wp2_with fail
        refine hNew.out.mono ?_
        rintro e w3 ⟨rfl, hb3, hp3⟩
        obtain ⟨PP, hPP⟩ : ∃ PP, w2.heap.size + 1 = PP := ⟨_, rfl⟩
        rw [hPP] at hp3 ⊢
        obtain ⟨role, hrole⟩ : ∃ role : Nat → Role, (fun b => if b = w2.heap.size then Role.map else if b = PP then Role.pool else Role.free) = role := ⟨_, rfl⟩
        rw [hrole] at hp3
        have HP3 := Lib.hid hp3
        have HT3 : Hid (TabAt w w3 w3 B R w3.heap.size (.slice none 0 0) q []) := ⟨HS2.out.below hb3, HM2.out.xr hb3, fun b _ _ => rfl, Nat.le_refl _, fun b e => (by cases e), hRB, hBL, Nat.le_trans hsz2 hb3.size⟩
        obtain ⟨Mm, hMm⟩ : ∃ Mm, w2.heap.size = Mm := ⟨_, rfl⟩
        rw [hMm] at HP3
        clear hb3 hp3 hrole hNew hPP hMm
        go_wp2_with fail
        refine (need_yes w3).mono ?_
        rintro e w4 ⟨rfl, hw⟩
        subst hw
        obtain ⟨Lt, hLt⟩ : ∃ Lt, w3.heap.size = Lt := ⟨_, rfl⟩
        rw [hLt] at HT3
        have HLT := Lib.hid hLt
        have hN := num_c HT3.out.rd
        cases hq1 : rdNum q with
        | none =>
          have HE : Hid (rdAll l = none) := Lib.hid <| by
            rw [HRA.out]
            unfold rdTab
            rw [hq1]
          rw [hq1] at hN
          replace hN := Lib.hid hN
          clear hq1
          go_wp2_with fail
          refine hN.out.mono ?_
          rintro e w4 ⟨rfl, hm⟩
          exact ⟨rfl, HNO.out HE.out _ (HT3.out.mv.trans hm)⟩
        | some y =>
          obtain ⟨tn, q1⟩ := y
          obtain ⟨TOT, hTOT⟩ : ∃ TOT, rdMany rdTxt tn q1 = TOT := ⟨_, rfl⟩
          have HTT : Hid (rdTab q = TOT) := Lib.hid <| by
            unfold rdTab
            rw [hq1]
            exact hTOT
          have HTOT := Lib.hid hTOT
          have htn : tn ≤ q1.length := by
            unfold rdNum at hq1
            split at hq1
            · cases hq1
            · split at hq1
              · rename_i h1
                cases hq1
                exact h1
              · cases hq1
          rw [hq1] at hN
          replace hN := Lib.hid hN
          clear hq1 hTOT hLt
          go_wp2_with fail
          refine hN.out.mono ?_
          rintro e w4 ⟨⟨v4, rfl, hv4⟩, hs4, hm4⟩
          have hv4' : v4 = .int .i64 (tn : Int) := hv4
          subst hv4'
          have HA4 := Lib.hid (HT3.out.call hs4 hm4)
          have htn2 : tn ≤ 1073741824 := Nat.le_trans htn hs4.len
          obtain ⟨i9, hi9, hz90, hz91, hz92⟩ := info_parts info9s
          clear hs4 hm4 hv4 hN htn
          go_wp2_with fail
          go_loopw [37] (fun vi wr => ∃ i : Nat, vi = .int .i64 i ∧ i ≤ tn ∧ Hid (∃ Tk ql vt, Tk.length = i ∧ TOT = cmb Tk (rdMany rdTxt (tn - i) ql) ∧ TabAt w w3 wr B R Lt vt ql Tk)) (fun vi _ => tn - (intOf vi).toNat)
          case atStart =>
            refine ⟨0, rfl, Nat.zero_le _, [], q1, _, rfl, ?_, HA4.out⟩
            rw [cmb_nil]
            exact HTOT.out.symm
          case round =>
            clear HA4
            obtain ⟨i, rfl, hin, HT⟩ := hrel
            obtain ⟨Tk, ql, vt, htl, htot, hat⟩ := HT.out
            by_cases hlt : i < tn
            · have hi1 : (i : Int) < (tn : Int) := by omega
              have hN := num_c hat.rd
              obtain ⟨k1, hk1⟩ : ∃ k1, tn - i = k1 + 1 := ⟨tn - i - 1, by omega⟩
              rw [hk1] at htot
              cases hq2 : rdNum ql with
              | none =>
                have HE : Hid (rdAll l = none) := Lib.hid <| by
                  rw [HRA.out, HTT.out, htot, cmb_stop (by unfold rdTxt; rw [hq2])]
                rw [hq2] at hN
                have HM := Lib.hid hat.mv
                replace hN := Lib.hid hN
                clear hq2 htot hat HT htl hk1
                go_wp2_with fail
                refine hN.out.mono ?_
                rintro e w5 ⟨rfl, hm⟩
                exact ⟨rfl, HNO.out HE.out _ (HM.out.trans hm)⟩
              | some y =>
                obtain ⟨m, r⟩ := y
                have hmr : m ≤ r.length := by
                  unfold rdNum at hq2
                  split at hq2
                  · cases hq2
                  · split at hq2
                    · rename_i h1
                      cases hq2
                      exact h1
                    · cases hq2
                have hstep : cmb Tk (rdMany rdTxt (k1 + 1) ql) = cmb (Tk ++ [⟨(r.take m).toArray⟩]) (rdMany rdTxt k1 (r.drop m)) := cmb_step (by unfold rdTxt; rw [hq2])
                rw [hstep] at htot
                rw [hq2] at hN
                have HTO := Lib.hid htot
                have HAT := Lib.hid hat
                have HK1 := Lib.hid hk1
                have HTL := Lib.hid htl
                replace hN := Lib.hid hN
                clear hq2 htot hat HT htl hk1 hstep
                go_wp2_with fail
                refine hN.out.mono ?_
                rintro e w5 ⟨⟨v5, rfl, hv5⟩, hs5, hm5⟩
                have hv5' : v5 = .int .i64 (m : Int) := hv5
                subst hv5'
                have HA5 := Lib.hid (HAT.out.call hs5 hm5)
                clear hs5 hm5 hv5 hN HAT
                obtain ⟨ab5, cb5, r1, r2, r3, r4, r5, r6⟩ := HA5.out.rd.ex
                obtain ⟨at5, ct5, hvt⟩ := ownsRow_slice r5
                rw [HTL.out] at hvt r5
                subst hvt
                obtain ⟨a6, hsl6, hby6⟩ := slice_to r2 hmr r3
                obtain ⟨rn, hrn⟩ : ∃ rn, r.length = rn := ⟨_, rfl⟩
                rw [hrn] at r1 r3 hsl6 hmr
                have HSW : Hid (∀ W : World, W.heap[R]? = w5.heap[R]? ∧ (∀ b, b < B → W.heap[b]? = w5.heap[b]?) → W.cell? ⟨R, 1, none⟩ = some (.slice at5 i ct5) ∧ W.cell? ⟨R, 0, none⟩ = some (.slice ab5 rn cb5) ∧ W.frozen? ⟨R, 1, none⟩ = false ∧ (convert 23 9 (.slice a6 m cb5)).run Tryz.prog W = .ok (.string ⟨(r.take m).toArray⟩) W) := Lib.hid fun W hW => by
                  have hb := r1.to hW.1
                  refine ⟨hb.cell (j := 1) rfl, hb.cell (j := 0) rfl, hb.frozen 1, ?_⟩
                  have h8 := convB (hby6.2 W (fun b off s e => hW.2 b (r4 b off s e))) cb5
                  rw [List.length_take, hrn, Nat.min_eq_left hmr] at h8
                  exact h8
                go_upto_region 9 with fail
                have hsl7 : ∀ W, (Instr.slice 23 (.slice ab5 rn cb5) none (some (.int .i64 (m : Int))) none).run Tryz.prog W = .ok (.slice a6 m cb5) W := hsl6
                refine wp_region_ord (fun W => W.heap[R]? = w5.heap[R]? ∧ ∀ b, b < B → W.heap[b]? = w5.heap[b]?) 16 [(true, 0), (true, 1), (true, 2), (true, 3), (true, 4), (true, 5), (true, 6), (true, 7), (true, 8), (true, 9), (true, 10), (true, 11), (false, 12), (false, 13), (false, 14), (false, 15), (false, 16)] (by kernel_rfl) (by kernel_rfl) (fun _ _ d _ _ h => by cases d <;> exact h) ⟨rfl, fun _ _ => rfl⟩ ?_
                intro wd hwd hS
                simp only [ordOps, List.map_cons, List.map_nil, Array.getD_eq_getD_getElem?, List.getElem?_toArray, List.getElem?_cons_succ, List.getElem?_cons_zero, Option.getD_some]
                iterate 12 (refine wpOrd_q rfl _ (fun w' hS' K hK => (by obtain ⟨x0, x1, x2, x3⟩ := HSW.out w' hS'; clear hS'; go_simp; exact hK)) (fun K hK => ?_); go_simp; refine hK _ ?_; clear hK K)
                have HBd : Hid (Below w5.heap.size w5 wd) := by rw [hwd.out]; exact below_dr1 (Below.refl _ _)
                clear hS hwd
                obtain ⟨s, hsE⟩ : ∃ s : ByteArray, (⟨(r.take m).toArray⟩ : ByteArray) = s := ⟨_, rfl⟩
                rw [hsE] at HTO ⊢
                have HSZ : Hid (s.size ≤ maxLen) := Lib.hid <| by
                  rw [← hsE]
                  show (r.take m).toArray.size ≤ _
                  rw [List.size_toArray, List.length_take]
                  unfold maxLen
                  have := hmr
                  have := HA5.out.rd.len
                  omega
                obtain ⟨w8, e8⟩ : ∃ w8, wd.alloc (.cells #[.string s] 9) = w8 := ⟨_, rfl⟩
                have HB8 : Hid (Below w5.heap.size w5 w8 ∧ w8.heap[wd.heap.size]? = some (.cells #[.string s] 9 (0, 0))) := by
                  rw [← e8]
                  exact ⟨below_tr HBd.out (below1 wd _), heap_alloc_new wd _⟩
                have HBR : Hid (R < w5.heap.size ∧ B ≤ w5.heap.size) := Lib.hid ⟨HA5.out.rd.lt, Nat.le_trans HA5.out.rd.lo (Nat.le_of_lt HA5.out.rd.lt)⟩
                have HS8 : Hid (w8.heap[R]? = w5.heap[R]? ∧ ∀ b, b < B → w8.heap[b]? = w5.heap[b]?) := Lib.hid ⟨HB8.out.1.block R HBR.out.1, fun b hb => HB8.out.1.block b (Nat.lt_of_lt_of_le hb HBR.out.2)⟩
                refine wpOrd_l rfl (fun K hK => ?_)
                go_simp
                refine hK _ _ ⟨fun _ => HS8.out, ?_⟩
                clear hK K e8
                have HROW : Hid (w8.ownsRow B 9 1 (.slice at5 i ct5) i (Tk.map .string)) := Lib.hid (ownsRow_below r5 HB8.out.1)
                have HBW : Hid (B ≤ w8.heap.size) := Nat.le_trans HBR.out.2 HB8.out.1.size
                have HRV : Hid ((Value.slice at5 i ct5).ownBlock ≠ some R) := Lib.hid r6
                have HBYT : Hid (BytesAt w5 ab5 r ∧ r.length ≤ cb5 ∧ ∀ b off s, ab5 = some ⟨b, off, s⟩ → b < B) := Lib.hid ⟨r2, by omega, r4⟩
                have HRN := Lib.hid hrn
                have HR1 := Lib.hid r1
                clear r1 r2 r4 r5 r6 hsl6 hsl7 hby6 HSW hsE hrn
                refine wpOrd_l rfl (fun K hK => ?_)
                refine wp_append_lies _ (.tmp 45) (.tmp 53) 43 rfl B 9 i9 (.string ⟨#[]⟩) 1 16 Tryz.underlying43 hi9 hz90 hz91 hz92 rfl (by decide) (.slice at5 i ct5) i (Tk.map .string) rfl HROW.out ⟨wd.heap.size, 0, none⟩ 1 1 [.string s] rfl rfl (World.news_of_block (cs := #[.string s]) (t := 9) (fr := (0, 0)) HB8.out.2) (by intro u hu; simp at hu; subst hu; rfl) (by decide) (by unfold maxLen; omega) (by omega) HBW.out _ rfl ?_
                intro g9 c9 w9 hown9 hgrow9 hat9 hlt9
                have HS9 : Hid (w9.heap[R]? = w5.heap[R]? ∧ ∀ b, b < B → w9.heap[b]? = w5.heap[b]?) := Lib.hid ⟨by
                  rw [hgrow9.block R (Nat.lt_of_lt_of_le HBR.out.1 HB8.out.1.size) (fun e => HRV.out e.symm)]
                  exact HS8.out.1, fun b hb => by
                  rw [hgrow9.block b (Nat.lt_of_lt_of_le hb HBW.out) (fun e => by have := (HROW.out.lt b e.symm).1; omega)]
                  exact HS8.out.2 b hb⟩
                have HA9 : Hid (TabAt w w3 (w9.setCell ⟨R, 1, none⟩ (.slice (some ⟨g9, 0, none⟩) (i + 1) c9)) B R Lt (.slice (some ⟨g9, 0, none⟩) (i + 1) c9) r (Tk ++ [s])) := Lib.hid <| by
                  have h1 := (HA5.out.below HB8.out.1).more (w2 := w9) (s := s) (g := g9) (cap := c9) HSZ.out (by rw [HTL.out]; omega) hgrow9 (by rw [HTL.out, List.map_append]; exact hown9) hat9
                  rw [HTL.out] at h1
                  exact h1
                have HBOX9 : Hid (BoxN w9 R [.slice ab5 rn cb5, .slice at5 i ct5] 67) := Lib.hid <| by
                  exact HR1.out.to HS9.out.1
                clear hown9 hgrow9 hat9 hlt9
                refine hK _ _ ⟨fun _ => HS9.out, ?_⟩
                clear hK K
                iterate 2 (refine wpOrd_l rfl (fun K hK => ?_); go_simp; refine hK _ _ ⟨fun _ => HS9.out, ?_⟩; clear hK K)
                have y1 := HBOX9.out.cell (j := 1) rfl
                have y2 := HBOX9.out.frozen 1
                refine wpOrd_l rfl (fun K hK => ?_)
                go_simp
                refine hK _ _ ⟨fun h => absurd rfl h, ?_⟩
                clear hK K
                refine wpOrd_nil ?_
                clear y1 y2
                obtain ⟨w10, e10⟩ : ∃ w10, w9.setCell ⟨R, 1, none⟩ (.slice (some ⟨g9, 0, none⟩) (i + 1) c9) = w10 := ⟨_, rfl⟩
                have HBX10 : Hid (BoxN w10 R [.slice ab5 rn cb5, .slice (some ⟨g9, 0, none⟩) (i + 1) c9] 67) := Lib.hid <| by
                  rw [← e10]
                  exact HBOX9.out.set 1 _
                rw [e10] at HA9 ⊢
                have z0 := HBX10.out.cell (j := 0) rfl
                have z1 := HBX10.out.frozen 0
                have HBY10 : Hid (BytesAt w10 ab5 r) := Lib.hid <| HBYT.out.1.keep fun b off s e => by
                  have h1 := HBYT.out.2.2 b off s e
                  rw [← e10, set_other _ (by have := HA5.out.rd.lo; omega)]
                  exact HS9.out.2 b h1
                obtain ⟨a11, hsl11, hby11, hlt11⟩ := slice_from HBY10.out (k := m) (by rw [HRN.out]; exact hmr) HBYT.out.2.1 HBYT.out.2.2
                rw [HRN.out] at hsl11
                have hset := HA9.out.rd.set hby11 (cb := cb5 - m) (n := rn - m) (by rw [List.length_drop, HRN.out]; omega) hlt11 (by rw [List.length_drop, HRN.out]; have := HA5.out.rd.len; rw [HRN.out] at this; omega) (by rw [List.length_drop, HRN.out])
                have HA11 : Hid (∃ Tk ql vt, Tk.length = i + 1 ∧ TOT = cmb Tk (rdMany rdTxt (tn - (i + 1)) ql) ∧ TabAt w w3 (w10.setCell ⟨R, 0, none⟩ (.slice a11 (rn - m) (cb5 - m))) B R Lt vt ql Tk) := Lib.hid <| by
                  refine ⟨Tk ++ [s], r.drop m, _, by rw [List.length_append, List.length_singleton, HTL.out], ?_, HA9.out.call hset.1 hset.2⟩
                  rw [HTO.out]
                  have : tn - (i + 1) = k1 := by have := HK1.out; omega
                  rw [this]
                have hmm2 : (m : Int) ≤ (rn : Int) := by omega
                clear hset hby11 hlt11 e10
                go_wp2_with fail
                go_roundw
                case rel => exact ⟨i + 1, by go_num, by omega, HA11.out⟩
                case measure => simp [intOf]; omega
            · have hi1 : ¬ (i : Int) < (tn : Int) := by omega
              have he : i = tn := by omega
              rw [he, Nat.sub_self, cmb_end] at htot
              have HRB : Hid (rdAll l = (rdRepos Tk ql).map fun x => (k, x.1)) := Lib.hid <| by
                rw [HRA.out, HTT.out, htot]
              have hpool : PoolIn wr w.heap.size role PP Mm (.slice none 0 0) (.slice none 0 0) (fun _ => .slice none 0 0) (k : Int) [] [] [] := HP3.out.keep (by rw [HLT.out]; exact hat.sz) (fun b hb => hat.low b (by rw [← HLT.out]; exact HP3.out.hi b hb) (fun e => by have := HP3.out.lo b hb; omega))
              have hvf : ∀ b, vt.ownBlock = some b → role b = .free := fun b hb => by
                by_cases e : role b = .free
                · exact e
                · have h1 := hat.vl b hb
                  have h2 := HP3.out.hi b e
                  rw [HLT.out] at h2
                  omega
              have HPL := Lib.hid hpool
              have HVF := Lib.hid hvf
              have HAT := Lib.hid hat
              obtain ⟨wA, rfl⟩ : ∃ x : World, x = wr := ⟨_, rfl⟩
              have hN : Calls Tryz.prog 49 #[.pointer (some ⟨R, 0, none⟩), .int .i64 8] wA (RdPost wA B R vt Tk (rdSmall 8 ql) isI) := small_c hat.rd 8 (by decide)
              clear hpool hvf hat htot HT htl he hlt hin HTT HTOT
              cases hq3 : rdSmall 8 ql with
              | none =>
                have HE : Hid (rdAll l = none) := Lib.hid <| by
                  rw [HRB.out]
                  unfold rdRepos
                  rw [hq3]
                  rfl
                rw [hq3] at hN
                replace hN := Lib.hid hN
                clear hq3
                go_wp2_with fail
                refine hN.out.mono ?_
                rintro e w5 ⟨rfl, hm⟩
                exact ⟨rfl, HNO.out HE.out _ (HAT.out.mv.trans hm)⟩
              | some y =>
                obtain ⟨n8, q8⟩ := y
                have hn8 := rdSmall_le hq3
                obtain ⟨TOT2, hTOT2⟩ : ∃ TOT2, rdMany (rdRepo Tk) n8 q8 = TOT2 := ⟨_, rfl⟩
                have HRC : Hid (rdAll l = TOT2.map fun x => (k, x.1)) := Lib.hid <| by
                  rw [HRB.out]
                  unfold rdRepos
                  rw [hq3]
                  simp only
                  rw [hTOT2]
                have HNO2 : Hid (TOT2 = none → ∀ w', MMv (XR R) w (XR R) w' → POST (.panicked oddC) w') := Lib.hid fun e w' hm => HNO.out (by rw [HRC.out, e]; rfl) w' hm
                have HBAD : Hid (∀ rl rs ks ats r Y, BuiltOK rl rs ks ats → TOT2 = cmb (rl ++ [r]) Y → addErr rs ks r ≠ 0 → ∀ w', MMv (XR R) w (XR R) w' → POST (.panicked oddC) w') := Lib.hid fun rl rs ks ats r Y h1 h2 h3 w' hm => by
                  rw [← HPO.out]
                  refine ⟨hm, .inl ⟨rfl, fun kd rl2 rs2 ks2 ats2 h5 h6 => ?_⟩⟩
                  rw [HRC.out] at h5
                  cases hT : TOT2 with
                  | none => rw [hT] at h5; cases h5
                  | some p =>
                    rw [hT] at h5
                    obtain ⟨p1, p2⟩ := p
                    cases h5
                    rw [hT] at h2
                    obtain ⟨more, e⟩ := cmb_front h2.symm
                    rw [e] at h6
                    obtain ⟨rs3, ks3, ats3, h7⟩ := BuiltOK.front more h6
                    exact h3 (h7.last h1)
                have HYES : Hid (∀ rl q9 rs ks ats vr va lv (role : Nat → Role) w', TOT2 = some (rl, q9) → BuiltOK rl rs ks ats → PoolIn w' w.heap.size role PP Mm vr va lv (k : Int) rs ks (ks.map fun k => k.pkg.name) → MMv (XR R) w (XR R) w' → POST (.returned (.pointer (some ⟨PP, 0, none⟩))) w') := Lib.hid fun rl q9 rs ks ats vr va lv role w' h1 h2 h3 h4 => by
                  rw [← HPO.out]
                  refine ⟨h4, .inr ⟨k, rl, rs, ks, ats, role, PP, Mm, vr, va, lv, rfl, ?_, h2, HKK.out, h3⟩⟩
                  rw [HRC.out, h1]
                  rfl
                have HTOT2 := Lib.hid hTOT2
                rw [hq3] at hN
                replace hN := Lib.hid hN
                clear hq3 hTOT2
                go_wp2_with fail
                refine hN.out.mono ?_
                rintro e w5 ⟨⟨v5, rfl, hv5⟩, hs5, hm5⟩
                have hv5' : v5 = .int .i64 (n8 : Int) := hv5
                subst hv5'
                have HR5 : Hid (RepAt w w5 B R vt q8 Tk role PP Mm (.slice none 0 0) (.slice none 0 0) (fun _ => .slice none 0 0) (k : Int) [] [] [] []) := Lib.hid ⟨hs5, HAT.out.mv.trans hm5, HPL.out.keep hm5.size (fun b hb => (hm5.block b (HPL.out.hi b hb) (fun e => by have e2 : b = R := e; have := HPL.out.lo b hb; omega)).1), HVF.out, hRB, hBL, .nil, by decide, by decide⟩
                clear hs5 hm5 hv5 hN HPL HAT HVF HRB HRA
                go_wp2_with fail
                go_loopw [69] (fun vi wr => ∃ i : Nat, vi = .int .i64 i ∧ i ≤ n8 ∧ Hid (∃ rl ql rs ks ats vr va lv role, rl.length = i ∧ TOT2 = cmb rl (rdMany (rdRepo Tk) (n8 - i) ql) ∧ RepAt w wr B R vt ql Tk role PP Mm vr va lv (k : Int) rl rs ks ats)) (fun vi _ => n8 - (intOf vi).toNat)
                case atStart =>
                  refine ⟨0, rfl, Nat.zero_le _, [], q8, [], [], [], _, _, _, role, rfl, ?_, HR5.out⟩
                  rw [cmb_nil]
                  exact HTOT2.out.symm
                case round =>
                  clear HR5
                  obtain ⟨i, rfl, hin, HT⟩ := hrel
                  obtain ⟨rl, ql, rs, ks, ats, vr, va, lv, role, hrll, htot, hra⟩ := HT.out
                  by_cases hlt : i < n8
                  · have hi2 : (i : Int) < (n8 : Int) := by omega
                    obtain ⟨k1, hk1⟩ : ∃ k1, n8 - i = k1 + 1 := ⟨n8 - i - 1, by omega⟩
                    rw [hk1] at htot
                    have HRA := Lib.hid hra
                    have HRLL := Lib.hid hrll
                    have HK1 := Lib.hid hk1
                    have HTO := Lib.hid htot
                    have HSTOP : Hid (rdRepo Tk ql = none → ∀ w', MMv (XR R) w (XR R) w' → POST (.panicked oddC) w') := Lib.hid fun e w' hm => HNO2.out (by rw [HTO.out, cmb_stop e]) w' hm
                    have hN := text_rd hra.rd
                    clear hra hrll hk1 htot HT
                    obtain ⟨wB, rfl⟩ : ∃ x : World, x = wr := ⟨_, rfl⟩
                    cases hq1 : rdText Tk ql with
                    | none =>
                      rw [hq1] at hN
                      have HE : Hid (rdRepo Tk ql = none) := Lib.hid <| by
                        unfold rdRepo
                        rw [hq1]
                      replace hN := Lib.hid hN
                      clear hq1
                      go_wp2_with fail
                      refine hN.out.mono ?_
                      rintro e w6 ⟨rfl, hm⟩
                      exact ⟨rfl, HSTOP.out HE.out _ (HRA.out.mv.trans hm)⟩
                    | some y =>
                      obtain ⟨nm, l1⟩ := y
                      rw [hq1] at hN
                      have HQ1 := Lib.hid hq1
                      have HNM : Hid (nm.size ≤ maxLen) := HRA.out.rd.tsz nm (rdText_mem hq1)
                      replace hN := Lib.hid hN
                      clear hq1
                      go_wp2_with fail
                      refine hN.out.mono ?_
                      rintro e w6 ⟨⟨v6, rfl, hv6⟩, hs6, hm6⟩
                      have hv6' : v6 = .string nm := hv6
                      subst hv6'
                      go_upto_region 15 with fail
                      obtain ⟨w7, e7⟩ : ∃ w7, w6.alloc (.cells #[.string nm, .int .i64 0, .bool false, .slice none 0 0] 40) = w7 := ⟨_, rfl⟩
                      have HB7 : Hid (Below w6.heap.size w6 w7 ∧ BoxN w7 w6.heap.size [.string nm, .int .i64 0, .bool false, .slice none 0 0] 40) := by
                        rw [← e7]
                        exact ⟨below1 _ _, boxN_alloc _ _ _⟩
                      rw [e7]
                      have HR7 : Hid (BoxAt w w7 B R vt l1 Tk role PP Mm vr va lv (k : Int) rl rs ks ats w6.heap.size [.string nm, .int .i64 0, .bool false, .slice none 0 0]) := Lib.hid ⟨(HRA.out.call hs6 hm6).below HB7.out.1, HB7.out.2, Nat.le_trans HRA.out.mv.size hm6.size, HRA.out.role_free (Nat.le_refl _) hm6, fun e => by have h1 := HRA.out.rd.vlt e; have h2 := hm6.size; omega⟩
                      obtain ⟨D8, hD8⟩ : ∃ D8, w6.heap.size = D8 := ⟨_, rfl⟩
                      rw [hD8] at HR7 ⊢
                      clear hs6 hm6 hv6 hN e7 HB7 hD8
                      have hN := big_c HR7.out.ra.rd
                      cases hq2 : rdBig l1 with
                      | none =>
                        rw [hq2] at hN
                        have HE : Hid (rdRepo Tk ql = none) := Lib.hid <| by
                          unfold rdRepo
                          rw [HQ1.out]
                          simp only
                          rw [hq2]
                        replace hN := Lib.hid hN
                        clear hq2
                        go_wp2_with fail
                        refine hN.out.mono ?_
                        rintro e w8 ⟨rfl, hm⟩
                        exact ⟨rfl, HSTOP.out HE.out _ (HR7.out.ra.mv.trans hm)⟩
                      | some y =>
                        obtain ⟨z, l2⟩ := y
                        rw [hq2] at hN
                        have HQ2 := Lib.hid hq2
                        have hzl := rdBig_lt hq2
                        replace hN := Lib.hid hN
                        clear hq2
                        go_wp2_with fail
                        refine hN.out.mono ?_
                        rintro e w8 ⟨⟨v8, rfl, hv8⟩, hs8, hm8⟩
                        have hv8' : v8 = .int .u64 (z : Int) := hv8
                        subst hv8'
                        have HR8 := Lib.hid (HR7.out.call hs8 hm8)
                        have d1 := HR8.out.box.cell (j := 1) rfl
                        have f1 := HR8.out.box.frozen 1
                        clear hs8 hm8 hv8 hN
                        go_upto_region 17 with fail
                        rw [unzig_bits hzl]
                        obtain ⟨w9, e9⟩ : ∃ w9, w8.setCell ⟨D8, 1, none⟩ (.int .i64 (unzig z)) = w9 := ⟨_, rfl⟩
                        have HR9 : Hid (BoxAt w w9 B R vt l2 Tk role PP Mm vr va lv (k : Int) rl rs ks ats D8  [.string nm, .int .i64 (unzig z), .bool false, .slice none 0 0]) := Lib.hid <| by
                          rw [← e9]
                          exact HR8.out.set 1 _
                        rw [e9]
                        clear e9 d1 f1 HR8
                        have hN : Calls Tryz.prog 49 #[.pointer (some ⟨R, 0, none⟩), .int .i64 1] w9 (RdPost w9 B R vt Tk (rdSmall 1 l2) isI) := small_c HR9.out.ra.rd 1 (by decide)
                        cases hq3 : rdSmall 1 l2 with
                        | none =>
                          rw [hq3] at hN
                          have HE : Hid (rdRepo Tk ql = none) := Lib.hid <| by
                            unfold rdRepo
                            rw [HQ1.out]
                            simp only
                            rw [HQ2.out]
                            simp only
                            rw [hq3]
                          replace hN := Lib.hid hN
                          clear hq3
                          go_wp2_with fail
                          refine hN.out.mono ?_
                          rintro e w10 ⟨rfl, hm⟩
                          exact ⟨rfl, HSTOP.out HE.out _ (HR9.out.ra.mv.trans hm)⟩
                        | some y =>
                          obtain ⟨b1, l3⟩ := y
                          rw [hq3] at hN
                          have HQ3 := Lib.hid hq3
                          replace hN := Lib.hid hN
                          clear hq3
                          obtain ⟨bi, hbi⟩ : ∃ bi : Bool, ((b1 : Int) == 1) = bi := ⟨_, rfl⟩
                          have HBI : Hid (decide (b1 = 1) = bi) := Lib.hid <| by
                            rw [← hbi]
                            by_cases h : b1 = 1
                            · rw [h]; rfl
                            · rw [decide_eq_false h]
                              have : ¬ (b1 : Int) = 1 := by omega
                              simpa using this
                          go_wp2_with fail
                          refine hN.out.mono ?_
                          rintro e w10 ⟨⟨v10, rfl, hv10⟩, hs10, hm10⟩
                          have hv10' : v10 = .int .i64 (b1 : Int) := hv10
                          subst hv10'
                          have HR10 := Lib.hid (HR9.out.call hs10 hm10)
                          have d2 := HR10.out.box.cell (j := 2) rfl
                          have f2 := HR10.out.box.frozen 2
                          clear hs10 hm10 hv10 hN
                          go_upto_region 18 with fail
                          obtain ⟨w11, e11⟩ : ∃ w11, w10.setCell ⟨D8, 2, none⟩ (.bool bi) = w11 := ⟨_, rfl⟩
                          have HR11 : Hid (BoxAt w w11 B R vt l3 Tk role PP Mm vr va lv (k : Int) rl rs ks ats D8  [.string nm, .int .i64 (unzig z), .bool bi, .slice none 0 0]) := Lib.hid <| by
                            rw [← e11]
                            exact HR10.out.set 2 _
                          rw [e11]
                          clear e11 d2 f2 HR10 hbi
                          have hN : Calls Tryz.prog 49 #[.pointer (some ⟨R, 0, none⟩), .int .i64 200] w11 (RdPost w11 B R vt Tk (rdSmall 200 l3) isI) := small_c HR11.out.ra.rd 200 (by decide)
                          cases hq4 : rdSmall 200 l3 with
                          | none =>
                            rw [hq4] at hN
                            have HE : Hid (rdRepo Tk ql = none) := Lib.hid <| by
                              unfold rdRepo
                              rw [HQ1.out]
                              simp only
                              rw [HQ2.out]
                              simp only
                              rw [HQ3.out]
                              simp only
                              rw [hq4]
                            replace hN := Lib.hid hN
                            clear hq4
                            go_wp2_with fail
                            refine hN.out.mono ?_
                            rintro e w12 ⟨rfl, hm⟩
                            exact ⟨rfl, HSTOP.out HE.out _ (HR11.out.ra.mv.trans hm)⟩
                          | some y =>
                            obtain ⟨cnt, l4⟩ := y
                            have hcnt := rdSmall_le hq4
                            obtain ⟨TOT3, hTOT3⟩ : ∃ TOT3, rdMany (rdPkg Tk) cnt l4 = TOT3 := ⟨_, rfl⟩
                            have HREP : Hid (rdRepo Tk ql = TOT3.map fun x => (⟨nm, unzig z, bi, x.1⟩, x.2)) := Lib.hid <| by
                              unfold rdRepo
                              rw [HQ1.out]
                              simp only
                              rw [HQ2.out]
                              simp only
                              rw [HQ3.out]
                              simp only
                              rw [hq4]
                              simp only
                              rw [HBI.out, hTOT3]
                            have HTOT3 := Lib.hid hTOT3
                            rw [hq4] at hN
                            replace hN := Lib.hid hN
                            clear hq4 hTOT3
                            go_wp2_with fail
                            refine hN.out.mono ?_
                            rintro e w12 ⟨⟨v12, rfl, hv12⟩, hs12, hm12⟩
                            have hv12' : v12 = .int .i64 (cnt : Int) := hv12
                            subst hv12'
                            have HR12 := Lib.hid (HR11.out.call hs12 hm12)
                            obtain ⟨LB, hLB⟩ : ∃ LB, w12.heap.size = LB := ⟨_, rfl⟩
                            have HLB : Hid (D8 < LB ∧ R < LB ∧ B ≤ LB ∧ w.heap.size ≤ LB ∧ (∀ b, role b ≠ .free → b < LB) ∧ ∀ b, vt.ownBlock = some b → b < LB) := Lib.hid <| by
                              rw [← hLB]
                              have h1 := HR12.out.box.lt
                              have h2 := HR12.out.ld
                              have h3 := HR12.out.ra.rr
                              have h4 := HR12.out.ra.bl
                              exact ⟨h1, by omega, by omega, by omega, HR12.out.ra.pool.hi, fun b hb => HR12.out.ra.rd.vlt hb⟩
                            have HL12 : Hid (w12.heap.size = LB) := Lib.hid hLB
                            obtain ⟨i45, hi45, hz450, hz451, hz452⟩ := info_parts info45
                            clear hs12 hm12 hv12 hN hLB
                            go_wp2_with fail
                            go_loopw [91] (fun vi wr => ∃ j : Nat, vi = .int .i64 j ∧ j ≤ cnt ∧ Hid (∃ ps q ap cp xs, ps.length = j ∧ TOT3 = cmb ps (rdMany (rdPkg Tk) (cnt - j) q) ∧ BoxAt w wr B R vt q Tk role PP Mm vr va lv (k : Int) rl rs ks ats D8  [.string nm, .int .i64 (unzig z), .bool bi, .slice ap j cp] ∧ PkgRow wr LB (.slice ap j cp) j ps xs ∧ LB ≤ wr.heap.size)) (fun vi _ => cnt - (intOf vi).toNat)
                            case atStart =>
                              refine ⟨0, rfl, Nat.zero_le _, [], l4, none, 0, [], rfl, ?_, HR12.out, PkgRow.nil _ _ _, by rw [HL12.out]; exact Nat.le_refl _⟩
                              rw [cmb_nil]
                              exact HTOT3.out.symm
                            case round =>
                              clear HR12
                              obtain ⟨j, rfl, hjn, HT⟩ := hrel
                              obtain ⟨ps, q, ap, cp, xs, hpl, htot, hbx, hrow, hLw⟩ := HT.out
                              by_cases hlt2 : j < cnt
                              · have hj1 : (j : Int) < (cnt : Int) := by omega
                                have hC : ∀ W, Below wr.heap.size wr W → Calls Tryz.prog 53 #[.pointer (some ⟨R, 0, none⟩)] W (RdPost W B R vt Tk (rdPkg Tk q) (isPkg W.heap.size)) := fun W hb => rpack_c W B R vt q Tk (hbx.ra.rd.below hb)
                                obtain ⟨k2, hk2⟩ : ∃ k2, cnt - j = k2 + 1 := ⟨cnt - j - 1, by omega⟩
                                rw [hk2] at htot
                                have HSW : Hid (∀ W : World, W.heap[D8]? = wr.heap[D8]? → W.cell? ⟨D8, 3, none⟩ = some (.slice ap j cp) ∧ W.frozen? ⟨D8, 3, none⟩ = false) := Lib.hid fun W hW => ⟨(hbx.box.to hW).cell (j := 3) rfl, (hbx.box.to hW).frozen 3⟩
                                have HDL : Hid (D8 < wr.heap.size) := hbx.box.lt
                                go_upto_region 20 with fail
                                cases hq5 : rdPkg Tk q with
                                | none =>
                                  have HE : Hid (rdRepo Tk ql = none) := Lib.hid <| by
                                    rw [HREP.out, htot, cmb_stop hq5]
                                    rfl
                                  have HM := Lib.hid hbx.ra.mv
                                  rw [hq5] at hC
                                  replace hC := Lib.hid hC
                                  clear htot hbx hrow HT hq5 hk2 hpl
                                  refine wp_region_ord (fun W => W.heap[D8]? = wr.heap[D8]?) 7 [(true, 0), (true, 1), (true, 2), (false, 3), (false, 4), (false, 5), (false, 6), (false, 7)] (by kernel_rfl) (by kernel_rfl) (fun _ _ d _ _ h => by cases d <;> exact h) rfl ?_
                                  intro wd hwd hS
                                  simp only [ordOps, List.map_cons, List.map_nil, Array.getD_eq_getD_getElem?, List.getElem?_toArray, List.getElem?_cons_succ, List.getElem?_cons_zero, Option.getD_some]
                                  iterate 3 (refine wpOrd_q rfl _ (fun w' hS' K hK => (by obtain ⟨x0, x1⟩ := HSW.out w' hS'; clear hS'; go_simp; exact hK)) (fun K hK => ?_); go_simp; refine hK _ ?_; clear hK K)
                                  have HBd : Hid (Below wr.heap.size wr wd) := by rw [hwd.out]; exact below_dr1 (Below.refl _ _)
                                  clear hS hwd
                                  refine wpOrd_l rfl (fun K hK => ?_)
                                  go_simp
                                  refine (hC.out wd HBd.out).mono ?_
                                  rintro e w13 ⟨rfl, hm⟩
                                  exact ⟨rfl, HSTOP.out HE.out _ ((HM.out.then HBd.out).trans hm)⟩
                                | some y =>
                                  obtain ⟨p, q2⟩ := y
                                  rw [cmb_step hq5] at htot
                                  rw [hq5] at hC
                                  have HTT3 := Lib.hid htot
                                  have HBX := Lib.hid hbx
                                  have HROW := Lib.hid hrow
                                  have HPL := Lib.hid hpl
                                  have HK2 := Lib.hid hk2
                                  replace hC := Lib.hid hC
                                  clear htot hbx hrow HT hq5 hk2 hpl
                                  refine wp_region_ord (fun W => W.heap[D8]? = wr.heap[D8]?) 7 [(true, 0), (true, 1), (true, 2), (false, 3), (false, 4), (false, 5), (false, 6), (false, 7)] (by kernel_rfl) (by kernel_rfl) (fun _ _ d _ _ h => by cases d <;> exact h) rfl ?_
                                  intro wd hwd hS
                                  simp only [ordOps, List.map_cons, List.map_nil, Array.getD_eq_getD_getElem?, List.getElem?_toArray, List.getElem?_cons_succ, List.getElem?_cons_zero, Option.getD_some]
                                  iterate 3 (refine wpOrd_q rfl _ (fun w' hS' K hK => (by obtain ⟨x0, x1⟩ := HSW.out w' hS'; clear hS'; go_simp; exact hK)) (fun K hK => ?_); go_simp; refine hK _ ?_; clear hK K)
                                  have HBd : Hid (Below wr.heap.size wr wd ∧ wd.heap.size = wr.heap.size) := Lib.hid <| by rw [hwd.out]; exact ⟨below_dr1 (Below.refl _ _), rfl⟩
                                  clear hS hwd
                                  refine wpOrd_l rfl (fun K hK => ?_)
                                  go_simp
                                  refine (hC.out wd HBd.out.1).mono ?_
                                  rintro e w13 ⟨⟨v13, rfl, hv13⟩, hs13, hm13⟩
                                  obtain ⟨xa, xc, xf, xn, xg, rfl, hpv⟩ := hv13
                                  rw [HBd.out.2] at hpv
                                  have HPV := Lib.hid hpv
                                  have HB13 := Lib.hid ((HBX.out.below HBd.out.1).call hs13 hm13)
                                  have HK13 : Hid (∀ b, b < wr.heap.size → b ≠ R → w13.heap[b]? = wr.heap[b]?) := Lib.hid fun b hl hne => by
                                    rw [(hm13.block b (Nat.lt_of_lt_of_le hl HBd.out.1.size) hne).1, HBd.out.1.block b hl]
                                  have HZ13 : Hid (wr.heap.size ≤ w13.heap.size) := Nat.le_trans HBd.out.1.size hm13.size
                                  have HDR : Hid (D8 ≠ R) := Lib.hid (by have h1 := HB13.out.ld; have h2 := HB13.out.ra.rr; omega)
                                  clear hs13 hm13 hpv
                                  go_simp
                                  refine hK _ _ ⟨fun _ => HK13.out D8 HDL.out HDR.out, ?_⟩
                                  clear hK K
                                  obtain ⟨w14, e14⟩ : ∃ w14, w13.alloc (.cells #[.string p.name, .string p.evr, .string p.arch, .string p.vendor, .slice (xa 0) (p.n 0) (xc 0), .slice (xa 1) (p.n 1) (xc 1), .slice (xa 2) (p.n 2) (xc 2), .slice (xa 3) (p.n 3) (xc 3), .slice (xa 4) (p.n 4) (xc 4), .slice (xa 5) (p.n 5) (xc 5), .slice (xa 6) (p.n 6) (xc 6), .slice xf xn xg] 45) = w14 := ⟨_, rfl⟩
                                  have HB14 : Hid (Below w13.heap.size w13 w14 ∧ w14.heap[w13.heap.size]? = some (.cells #[.string p.name, .string p.evr, .string p.arch, .string p.vendor, .slice (xa 0) (p.n 0) (xc 0), .slice (xa 1) (p.n 1) (xc 1), .slice (xa 2) (p.n 2) (xc 2), .slice (xa 3) (p.n 3) (xc 3), .slice (xa 4) (p.n 4) (xc 4), .slice (xa 5) (p.n 5) (xc 5), .slice (xa 6) (p.n 6) (xc 6), .slice xf xn xg] 45 (0, 0))) := by
                                    rw [← e14]
                                    exact ⟨below1 _ _, heap_alloc_new w13 _⟩
                                  have HK14 : Hid (∀ b, b < wr.heap.size → b ≠ R → w14.heap[b]? = wr.heap[b]?) := Lib.hid fun b hl hne => by
                                    rw [HB14.out.1.block b (Nat.lt_of_lt_of_le hl HZ13.out), HK13.out b hl hne]
                                  refine wpOrd_l rfl (fun K hK => ?_)
                                  go_simp
                                  refine hK _ _ ⟨fun _ => HK14.out D8 HDL.out HDR.out, ?_⟩
                                  clear hK K e14
                                  have HRLB : Hid (∀ b, LB ≤ b → b ≠ R) := Lib.hid fun b hb e => by have := HLB.out.2.1; omega
                                  have HR14 : Hid (w14.ownsRow LB 45 12 (.slice ap j cp) j xs) := Lib.hid (ownsRow_to HROW.out.row fun g hg => HK14.out g (HROW.out.row.lt g hg).2 (HRLB.out g (HROW.out.row.lt g hg).1))
                                  have HZ14 : Hid (LB ≤ w14.heap.size) := Nat.le_trans hLw (Nat.le_trans HZ13.out HB14.out.1.size)
                                  refine wpOrd_l rfl (fun K hK => ?_)
                                  refine wp_append_lies _ (.tmp 94) (.tmp 97) 38 rfl LB 45 i45 _ 12 256 Tryz.underlying38 hi45 hz450 hz451 hz452 rfl (by decide) (.slice ap j cp) j xs rfl HR14.out ⟨w13.heap.size, 0, none⟩ 1 1 [.string p.name, .string p.evr, .string p.arch, .string p.vendor, .slice (xa 0) (p.n 0) (xc 0), .slice (xa 1) (p.n 1) (xc 1), .slice (xa 2) (p.n 2) (xc 2), .slice (xa 3) (p.n 3) (xc 3), .slice (xa 4) (p.n 4) (xc 4), .slice (xa 5) (p.n 5) (xc 5), .slice (xa 6) (p.n 6) (xc 6), .slice xf xn xg] rfl rfl (World.news_of_block (cs := #[.string p.name, .string p.evr, .string p.arch, .string p.vendor, .slice (xa 0) (p.n 0) (xc 0), .slice (xa 1) (p.n 1) (xc 1), .slice (xa 2) (p.n 2) (xc 2), .slice (xa 3) (p.n 3) (xc 3), .slice (xa 4) (p.n 4) (xc 4), .slice (xa 5) (p.n 5) (xc 5), .slice (xa 6) (p.n 6) (xc 6), .slice xf xn xg]) (t := 45) (fr := (0, 0)) HB14.out.2) (by intro u hu; simp only [List.mem_cons, List.not_mem_nil, or_false] at hu; rcases hu with rfl | rfl | rfl | rfl | rfl | rfl | rfl | rfl | rfl | rfl | rfl | rfl <;> rfl) (by decide) (by unfold maxLen; omega) (by omega) HZ14.out _ rfl ?_
                                  intro g9 c9 w15 hown9 hgrow9 hat9 hlt9
                                  have HLOW : Hid (Below LB w14 w15) := Lib.hid ⟨hgrow9.os, hgrow9.tape, hgrow9.output, hgrow9.size, fun b hb => hgrow9.block b (Nat.lt_of_lt_of_le hb HZ14.out) (fun e => by have := (HR14.out.lt b e.symm).1; omega)⟩
                                  have HB15 : Hid (BoxAt w w15 B R vt q2 Tk role PP Mm vr va lv (k : Int) rl rs ks ats D8  [.string nm, .int .i64 (unzig z), .bool bi, .slice ap j cp]) := Lib.hid ((HB13.out.below HB14.out.1).low HLOW.out HLB.out.1 HLB.out.2.2.2.2.1 HLB.out.2.2.2.2.2 HLB.out.2.1 HLB.out.2.2.2.1)
                                  have HD15 : Hid (w15.heap[D8]? = wr.heap[D8]?) := Lib.hid ((HLOW.out.block D8 HLB.out.1).trans (HK14.out D8 HDL.out HDR.out))
                                  have hrow15 := HROW.out.step2 HPL.out hLw (Nat.le_trans HZ13.out HB14.out.1.size) (fun b hb hl => HK14.out b hl (HRLB.out b hb)) (HPV.out.new HB14.out.1) hown9 hgrow9 hat9
                                  have HEND : Hid (∃ ps q ap cp xs, ps.length = j + 1 ∧ TOT3 = cmb ps (rdMany (rdPkg Tk) (cnt - (j + 1)) q) ∧ BoxAt w (w15.setCell ⟨D8, 3, none⟩ (.slice (some ⟨g9, 0, none⟩) (j + 1) c9)) B R vt q Tk role PP Mm vr va lv (k : Int) rl rs ks ats D8  [.string nm, .int .i64 (unzig z), .bool bi, .slice ap (j + 1) cp] ∧ PkgRow (w15.setCell ⟨D8, 3, none⟩ (.slice (some ⟨g9, 0, none⟩) (j + 1) c9)) LB (.slice ap (j + 1) cp) (j + 1) ps xs ∧ LB ≤ (w15.setCell ⟨D8, 3, none⟩ (.slice (some ⟨g9, 0, none⟩) (j + 1) c9)).heap.size) := Lib.hid <| by
                                    refine ⟨ps ++ [p], q2, some ⟨g9, 0, none⟩, c9, _, by rw [List.length_append, List.length_singleton, HPL.out], ?_, HB15.out.set 3 _, hrow15.keep (fun b hb hl => set_other _ (by have := HLB.out.1; omega)), by rw [set_size]; exact Nat.le_trans HZ14.out HLOW.out.size⟩
                                    rw [HTT3.out]
                                    have : cnt - (j + 1) = k2 := by have := HK2.out; omega
                                    rw [this]
                                  clear hown9 hgrow9 hat9 hlt9 hrow15
                                  refine hK _ _ ⟨fun _ => HD15.out, ?_⟩
                                  clear hK K
                                  refine wpOrd_l rfl (fun K hK => ?_)
                                  go_simp
                                  refine hK _ _ ⟨fun _ => HD15.out, ?_⟩
                                  clear hK K
                                  obtain ⟨y0, y1⟩ := HSW.out w15 HD15.out
                                  refine wpOrd_l rfl (fun K hK => ?_)
                                  go_simp
                                  refine hK _ _ ⟨fun h => absurd rfl h, ?_⟩
                                  clear hK K
                                  refine wpOrd_nil ?_
                                  clear y0 y1
                                  go_wp2_with fail
                                  go_roundw
                                  case rel => exact ⟨j + 1, by go_num, by omega, HEND.out⟩
                                  case measure => simp [intOf]; omega
                              · have hj1 : ¬ (j : Int) < (cnt : Int) := by omega
                                have hje : j = cnt := by omega
                                rw [hje, Nat.sub_self, cmb_end] at htot
                                rw [hje] at hbx hrow hpl
                                obtain ⟨r, hr⟩ : ∃ r : RepoT, (⟨nm, unzig z, bi, ps⟩ : RepoT) = r := ⟨_, rfl⟩
                                have HRD : Hid (rdRepo Tk ql = some (r, q)) := Lib.hid <| by
                                  rw [HREP.out, htot, ← hr]
                                  rfl
                                have hpk : PkgsV wr (New LB wr) ps (.slice ap cnt cp) := (hrow.own hpl).pkgs hpl (by omega)
                                have hpv : PkgsV wr (New LB wr) r.pkgs (.slice ap cnt cp) := by
                                  rw [← hr]
                                  exact hpk
                                have hA := add_c w.heap.size role PP Mm vr va lv (k : Int) rs ks r ap cnt cp (New LB wr) wr hbx.ra.pool (Nat.le_trans HLB.out.2.2.2.1 hLw) hbx.ra.rlen hbx.ra.klen hpv (fun b hb => ⟨by
                                  by_cases e : role b = .free
                                  · exact e
                                  · have h1 := HLB.out.2.2.2.2.1 b e
                                    have h2 := hb.1
                                    omega, hb.2.lt⟩)
                                have en : r.name = nm := by rw [← hr]
                                have ep : r.prio = unzig z := by rw [← hr]
                                have ei : r.inst = bi := by rw [← hr]
                                rw [en, ep, ei] at hA
                                have hb0 := hbx.box.cell (j := 0) rfl
                                have hb1 := hbx.box.cell (j := 1) rfl
                                have hb2 := hbx.box.cell (j := 2) rfl
                                have hb3 := hbx.box.cell (j := 3) rfl
                                have HBX := Lib.hid hbx
                                replace hA := Lib.hid hA
                                clear htot hbx hrow hpl hpk hpv HT hr en ep ei hje hlt2 hjn
                                go_wp2_with fail
                                refine hA.out.mono ?_
                                rintro e w13 ⟨rfl, role', vr', va', lv', hmv, hp13⟩
                                have hp13 : PoolIn w13 w.heap.size role' PP Mm vr' va' lv' (k : Int) (addR rs ks r) (addK rs ks r) ((addK rs ks r).map fun k => k.pkg.name) := hp13
                                have hlow : ∀ b, b < w.heap.size → role b = .free := fun b hb => by
                                  by_cases e : role b = .free
                                  · exact e
                                  · have := HBX.out.ra.pool.lo b e
                                    omega
                                have hsw : w.heap.size ≤ wr.heap.size := HBX.out.ra.mv.size
                                have HMV13 : Hid (MMv (XR R) w (XR R) w13) := Lib.hid <| by
                                  have hm := HBX.out.ra.mv
                                  exact ⟨hmv.os.trans hm.os, hmv.tape.trans hm.tape, hmv.output.trans hm.output, Nat.le_trans hm.size hmv.size, fun b hb hx => ⟨((hmv.block b (by omega) (hlow b hb)).1).trans (hm.block b hb hx).1, hx⟩⟩
                                by_cases hz0 : addErr rs ks r = 0
                                · have hrd13 : RdS w13 B R vt q Tk := HBX.out.ra.rd.to (hmv.block R HBX.out.ra.rd.lt (hlow R HBX.out.ra.rr)).1 (fun b hb => (hmv.block b (by have := HBX.out.ra.bl; omega) (hlow b (by have := HBX.out.ra.bl; omega))).1) (fun b hb => (hmv.block b (HBX.out.ra.rd.vlt hb) (HBX.out.ra.vfree b hb)).1)
                                  have HNX : Hid (∃ rl ql rs ks ats vr va lv role, rl.length = i + 1 ∧ TOT2 = cmb rl (rdMany (rdRepo Tk) (n8 - (i + 1)) ql) ∧ RepAt w w13 B R vt ql Tk role PP Mm vr va lv (k : Int) rl rs ks ats) := Lib.hid <| by
                                    unfold addR addK at hp13
                                    rw [if_pos hz0, if_pos hz0] at hp13
                                    have hz1 := addErr_zero hz0
                                    refine ⟨rl ++ [r], q, _, _, _, vr', va', lv', role', by rw [List.length_append, List.length_singleton, HRLL.out], ?_, ⟨hrd13, HMV13.out, hp13, fun b hb => (hmv.block b (HBX.out.ra.rd.vlt hb) (HBX.out.ra.vfree b hb)).2, HBX.out.ra.rr, HBX.out.ra.bl, HBX.out.ra.built.add r hz0, by simp; omega, by simp; omega⟩⟩
                                    rw [HTO.out, cmb_step HRD.out]
                                    have : n8 - (i + 1) = k1 := by have := HK1.out; omega
                                    rw [this]
                                  rw [hz0]
                                  clear hmv hp13 hrd13 hA hb0 hb1 hb2 hb3 hz0
                                  go_wp2_with fail
                                  refine (need_yes w13).mono ?_
                                  rintro e w14 ⟨rfl, hw⟩
                                  subst hw
                                  go_wp2_with fail
                                  go_roundw
                                  case rel => exact ⟨i + 1, by go_num, by omega, HNX.out⟩
                                  case measure => simp [intOf]; omega
                                · have hbad := Lib.hid (HBAD.out rl rs ks ats r _ HBX.out.ra.built (by rw [HTO.out, cmb_step HRD.out]) hz0 w13 HMV13.out)
                                  have hzb : (addErr rs ks r == 0) = false := by simpa using hz0
                                  generalize addErr rs ks r = er at hzb
                                  clear hmv hp13 hA hb0 hb1 hb2 hb3 hz0
                                  go_wp2_with fail
                                  refine (need_no w13).mono ?_
                                  rintro e w14 ⟨rfl, hw⟩
                                  subst hw
                                  exact ⟨rfl, hbad.out⟩
                  · have hi1 : ¬ (i : Int) < (n8 : Int) := by omega
                    have he : i = n8 := by omega
                    rw [he, Nat.sub_self, cmb_end] at htot
                    have hfin := Lib.hid (HYES.out rl ql rs ks ats vr va lv role wr htot hra.built hra.pool hra.mv)
                    clear htot hra HT hrll he hlt hin
                    go_wp2_with fail
                    exact hfin.out
end Go.Proofs.YtbdankpkdhhlmaaGreat
namespace Go.Proofs.YtbdankpkdhhlmaaGreat
set_option linter.unusedVariables false
set_option linter.unusedSimpArgs false
open Go.RowKit Go.Maps

theorem ta_yes (W : World) : (Instr.typeAssert (.iface 63 (.agg #[])) 20 63 true).run Tryz.prog W = .ok (.tuple #[.agg #[], .bool true]) W := by kernel_rfl
theorem ta_no (W : World) : (Instr.typeAssert .nilIface 20 63 true).run Tryz.prog W = .ok (.tuple #[.agg #[], .bool false]) W := by kernel_rfl
theorem below_set {B : Nat} {w w' : World} (h : Below B w w') {D o : Nat} (hD : B ≤ D) (x : Value) : Below B w (w'.setCell ⟨D, o, none⟩ x) :=
  ⟨h.os, h.tape, h.output, by rw [set_size]; exact h.size, fun b hb => (set_other _ (by omega)).trans (h.block b hb)⟩
set_option maxRecDepth 100000 in
theorem catch_odd (w : World) (B D E : Nat) (x y : Value) (hD : BoxN w D [x] 24) (hE : BoxN w E [y] 25) (hBD : B ≤ D) (hDE : D < E) :
    CallsD Tryz.prog 24 #[.pointer (some ⟨D, 0, none⟩), .pointer (some ⟨E, 0, none⟩)] (.panicking oddC) w fun e u' w' =>
      e = .returned (.tuple #[]) ∧ u' = .panicking [{ v := .iface 63 (.agg #[]), recovered := true }] ∧ BoxN w' D [.pointer none] 24 ∧ BoxN w' E [.int .i64 90] 25 ∧ Below B w w' := by
  have hta := ta_yes
  refine callsD_of_wpS Tryz.func24 rfl fun c₀ cs hu => ?_
  apply wpS_seq
  apply wpS_region
  simp [wpOpsS, go_sem, recoverD, hu, oddC, Tryz.ntmps24, Exit.thenS, Array.replicate_succ]
  refine wpS_of_wp ?_
  obtain ⟨w1, e1⟩ : ∃ w1, w.alloc (.cells #[] 63) = w1 := ⟨_, rfl⟩
  have hlt := hE.lt
  have hB1 : Below w.heap.size w w1 := by rw [← e1]; exact below1 _ _
  have hD1 := hD.below hB1
  have hE1 := hE.below hB1
  have c1 := hD1.cell (j := 0) rfl
  have f1 := hD1.frozen 0
  have hE2 : BoxN (w1.setCell ⟨D, 0, none⟩ (.pointer none)) E [y] 25 := hE1.to (set_other (w := w1) (o := 0) (.pointer none) (by omega))
  have c2 := hE2.cell (j := 0) rfl
  have f2 := hE2.frozen 0
  go_wp2_with fail
  have r1 := (hD1.set 0 (.pointer none)).to (set_other (w := w1.setCell ⟨D, 0, none⟩ (.pointer none)) (g := E) (o := 0) (.int .i64 90) (by omega : D ≠ E))
  have r2 := hE2.set 0 (.int .i64 90)
  have r3 : Below B w ((w1.setCell ⟨D, 0, none⟩ (.pointer none)).setCell ⟨E, 0, none⟩ (.int .i64 90)) := below_set (below_set (hB1.mono (by omega)) hBD _) (by omega) _
  exact ⟨rfl, _, rfl, _, results_none rfl _ _ _, rfl, rfl, r1, r2, r3⟩
set_option maxRecDepth 100000 in
theorem catch_none (w : World) (p q : Addr) :
    CallsD Tryz.prog 24 #[.pointer (some p), .pointer (some q)] .returning w fun e u' w' =>
      e = .returned (.tuple #[]) ∧ u' = .returning ∧ Below w.heap.size w w' := by
  have hta := ta_no
  refine callsD_of_wpS Tryz.func24 rfl fun c₀ cs hu => ?_
  apply wpS_seq
  apply wpS_region
  simp [wpOpsS, go_sem, recoverD, hu, Tryz.ntmps24, Exit.thenS, Array.replicate_succ]
  refine wpS_of_wp ?_
  have hB1 : Below w.heap.size w (w.alloc (.cells #[] 63)) := below1 _ _
  go_wp2_with fail
  exact ⟨rfl, .returning, by rw [← hu], _, results_none rfl _ _ _, rfl, rfl, hB1⟩

theorem PoolIn.base {w : World} {B B' : Nat} {role : Nat → Role} {P M : Nat} {vr va : Value} {lv : ByteArray → Value} {kd : Int} {rs : List RepoH} {ks : List KeptT} {ns : List ByteArray} (h : PoolIn w B role P M vr va lv kd rs ks ns) (hB : B' ≤ B) : PoolIn w B' role P M vr va lv kd rs ks ns := by
  obtain ⟨xs, ha, hp⟩ := h.arow
  exact ⟨h.box, ownsRow_lo h.rrow hB, ⟨xs, ownsRow_lo ha hB, hp⟩, h.named, fun s hs => ownsRow_lo (h.lists s hs) hB, h.rP, h.rM, h.rR, h.rA, h.rL, fun b hb => Nat.le_trans hB (h.lo b hb), h.hi⟩
/-- What Read answers: none, or the pool whose bytes these are. -/
def ReadPost (w : World) (l : List UInt8) (e : Ending) (w' : World) : Prop :=
  Below w.heap.size w w' ∧ ((e = .returned (.tuple #[.pointer none, .int .i64 90]) ∧ ∀ kd rl rs ks ats, rdAll l = some (kd, rl) → BuiltOK rl rs ks ats → encB kd (tokPool rs ks) ≠ l) ∨
    ∃ (kd : Nat) (rl : List RepoT) (rs : List RepoH) (ks : List KeptT) (ats : List (Nat × Nat)) (role : Nat → Role) (P M : Nat) (vr va : Value) (lv : ByteArray → Value), e = .returned (.tuple #[.pointer (some ⟨P, 0, none⟩), .int .i64 0]) ∧ rdAll l = some (kd, rl) ∧ BuiltOK rl rs ks ats ∧ (kd = 1 ∨ kd = 2) ∧ encB kd (tokPool rs ks) = l ∧ PoolIn w' w.heap.size role P M vr va lv (kd : Int) rs ks (ks.map fun k => k.pkg.name))
theorem leaves_odd (w w' : World) (l : List UInt8) (tm : Array Value) (D E : Nat) (h2 : tm[2]? = some (.pointer (some ⟨D, 0, none⟩))) (h3 : tm[3]? = some (.pointer (some ⟨E, 0, none⟩))) (x y : Value) (hD : BoxN w' D [x] 24) (hE : BoxN w' E [y] 25) (hDD : w.heap.size ≤ D) (hDE : D < E) (hb : Below w.heap.size w w')
    (hno : ∀ (kd : Nat) rl rs ks ats, rdAll l = some (kd, rl) → BuiltOK rl rs ks ats → encB kd (tokPool rs ks) ≠ l) :
    Leaves Tryz.prog Tryz.f11 tm (ReadPost w l) [{ target := .fn (.func 24) #[.pointer (some ⟨D, 0, none⟩), .pointer (some ⟨E, 0, none⟩)], args := #[] }] (.panicking oddC) w' := by
  refine leaves_cons (f := 24) (args := #[.pointer (some ⟨D, 0, none⟩), .pointer (some ⟨E, 0, none⟩)]) (by simp) (by simp [go_sem]) ?_
  refine (catch_odd w' w.heap.size D E x y hD hE hDD hDE).mono ?_
  rintro e u' w2 ⟨rfl, rfl, k1, k2, k3⟩
  have c1 := k1.cell (j := 0) rfl
  have c2 := k2.cell (j := 0) rfl
  simp [Leaves, settle, results, go_sem, h2, h3, c1, c2]
  exact ⟨hb.trans k3, .inl ⟨rfl, hno⟩⟩
theorem leaves_ok (w w' : World) (l : List UInt8) (tm : Array Value) (D E : Nat) (h2 : tm[2]? = some (.pointer (some ⟨D, 0, none⟩))) (h3 : tm[3]? = some (.pointer (some ⟨E, 0, none⟩))) (x y : Value) (hD : BoxN w' D [x] 24) (hE : BoxN w' E [y] 25)
    (hR : ∀ w2, Below w'.heap.size w' w2 → ReadPost w l (.returned (.tuple #[x, y])) w2) :
    Leaves Tryz.prog Tryz.f11 tm (ReadPost w l) [{ target := .fn (.func 24) #[.pointer (some ⟨D, 0, none⟩), .pointer (some ⟨E, 0, none⟩)], args := #[] }] .returning w' := by
  refine leaves_cons (f := 24) (args := #[.pointer (some ⟨D, 0, none⟩), .pointer (some ⟨E, 0, none⟩)]) (by simp) (by simp [go_sem]) ?_
  refine (catch_none w' _ _).mono ?_
  rintro e u' w2 ⟨rfl, rfl, k3⟩
  have c1 := (hD.below k3).cell (j := 0) rfl
  have c2 := (hE.below k3).cell (j := 0) rfl
  simp [Leaves, settle, results, go_sem, h2, h3, c1, c2]
  exact hR w2 k3
set_option maxHeartbeats 4000000 in
set_option maxRecDepth 100000 in
theorem read_c (w : World) (ab : Option Addr) (cb : Nat) (l : List UInt8) (hby : BytesAt w ab l) (hlb : ∀ b off s, ab = some ⟨b, off, s⟩ → b < w.heap.size) (hc : l.length ≤ cb) (hlen : l.length ≤ 1073741824) (hcan : ∀ (kd : Nat) rl rs ks ats, rdAll l = some (kd, rl) → BuiltOK rl rs ks ats → CanW kd rs ks) {n : Nat} (hn : l.length = n) :
    Calls Tryz.prog 11 #[.slice ab n cb] w (ReadPost w l) := by
  have hmf : ∀ (fn : Fn) (first cap : Array Value) (w : World), (Instr.makeFunc fn first cap).run Tryz.prog w = .ok (.func fn first cap) w := fun _ _ _ _ => rfl
  go_enter_defers Tryz.func11, Tryz.ntmps11
  obtain ⟨D, hD⟩ : ∃ D, w.heap.size = D := ⟨_, rfl⟩
  go_upto_region 2 with fail
  obtain ⟨w2, e2⟩ : ∃ w2, (w.alloc (.cells #[.pointer none] 24)).alloc (.cells #[.int .i64 0] 25) = w2 := ⟨_, rfl⟩
  have hb2 : Below w.heap.size w w2 := by rw [← e2]; exact below2 _ _ _
  have hsz2 : w2.heap.size = D + 2 := by rw [← e2, ← hD]; simp
  have hD2 : BoxN w2 D [.pointer none] 24 := by
    rw [← e2, ← hD]
    exact (heap_alloc_old (w := w.alloc (.cells #[.pointer none] 24)) _ (by simp)).trans (heap_alloc_new w _)
  have hE2 : BoxN w2 (D + 1) [.int .i64 0] 25 := by
    rw [← e2, ← hD]
    have h1 := heap_alloc_new (w.alloc (.cells #[.pointer none] 24)) (.cells #[.int .i64 0] 25)
    have h2 : (w.alloc (.cells #[.pointer none] 24)).heap.size = w.heap.size + 1 := by simp
    rw [h2] at h1
    exact h1
  rw [e2]
  have HD2 := Lib.hid hD2
  have HE2 := Lib.hid hE2
  have HBB := Lib.hid hb2
  have HBY := Lib.hid hby
  have HLB := Lib.hid hlb
  have HCAN := Lib.hid hcan
  have HDD := Lib.hid hD
  have HNN := Lib.hid hn
  obtain ⟨w3, e3⟩ : ∃ w3, w2.alloc (.cells #[.slice ab n cb, .slice none 0 0] 67) = w3 := ⟨_, rfl⟩
  have HB3 : Hid (Below w2.heap.size w2 w3) := Lib.hid (by rw [← e3]; exact below1 _ _)
  have HR3 : Hid (RdS w3 D (D + 2) (.slice none 0 0) l []) := Lib.hid <| by
    refine ⟨⟨ab, cb, ?_, hby.keep fun b off s e => ?_, hc, fun b off s e => by rw [← hD]; exact hlb b off s e, ⟨rfl, .inl ⟨rfl, rfl⟩⟩, by intro h; cases h⟩, by omega, hlen, by simp, by simp⟩
    · rw [← e3, ← hsz2, hn]
      exact heap_alloc_new w2 _
    · exact (HB3.out.block b (by have := hlb b off s e; omega)).trans (hb2.block b (hlb b off s e))
  clear e2 hD2 hE2 hb2 hby hlb hcan hn
  have HS3 : Hid (w3.heap.size = D + 3) := Lib.hid (by rw [← e3]; simp [hsz2])
  go_wp2_with fail
  clear e3
  refine (all_rd w3 D (D + 2) l HR3.out).mono ?_
  rintro e w4 ⟨hm4, h4⟩
  have hkeep : ∀ b, b < D + 2 → w4.heap[b]? = w2.heap[b]? := fun b hb => ((hm4.block b (by rw [HS3.out]; omega) (fun e => by have : b = D + 2 := e; omega)).1).trans (HB3.out.block b (by omega))
  have HD4 : Hid (BoxN w4 D [.pointer none] 24) := Lib.hid (HD2.out.to (hkeep D (by omega)))
  have HE4 : Hid (BoxN w4 (D + 1) [.int .i64 0] 25) := Lib.hid (HE2.out.to (hkeep (D + 1) (by omega)))
  have HB4 : Hid (Below w.heap.size w w4) := Lib.hid <| HBB.out.trans ⟨hm4.os.trans HB3.out.os, hm4.tape.trans HB3.out.tape, hm4.output.trans HB3.out.output, Nat.le_trans HB3.out.size hm4.size, fun b hb => hkeep b (by have := HDD.out; omega)⟩
  have HZ4 : Hid (D + 3 ≤ w4.heap.size) := Lib.hid (by have := hm4.size; rw [HS3.out] at this; exact this)
  clear hm4 hkeep
  rcases h4 with ⟨rfl, hno⟩ | ⟨kd, rl, rs, ks, ats, role, P, M, vr, va, lv, rfl, hall, hok, hkd, hpool⟩
  · exact leaves_odd w w4 l _ D (D + 1) rfl rfl _ _ HD4.out HE4.out (by rw [HDD.out]; exact Nat.le_refl _) (by omega) HB4.out (fun kd rl rs ks ats h1 h2 => absurd h2 (hno kd rl rs ks ats h1))
  · have HC := Lib.hid (HCAN.out kd rl rs ks ats hall hok)
    have HALL := Lib.hid hall
    have HOK := Lib.hid hok
    have HKD := Lib.hid hkd
    have HP := Lib.hid hpool
    clear hall hok hkd hpool
    go_wp2_with fail
    refine (write_c HP.out HC.out).mono ?_
    rintro e w5 ⟨v, rfl, hv⟩
    have hb5 := hv.2
    obtain ⟨a5, c5, rfl, hby5, hc5, _⟩ := hv.slice2
    obtain ⟨le, hle⟩ : ∃ le, encB (kd : Int).toNat (tokPool rs ks) = le := ⟨_, rfl⟩
    rw [hle] at hby5 hc5
    have HLE : Hid (encB kd (tokPool rs ks) = le) := Lib.hid hle
    rw [hle]
    obtain ⟨m, hm⟩ : ∃ m, le.length = m := ⟨_, rfl⟩
    rw [hm]
    have HB5 := Lib.hid hb5
    have HBY5 := Lib.hid hby5
    have HM := Lib.hid hm
    clear hv hb5 hby5 hc5 hle hm
    have HB45 : Hid (Below w.heap.size w w5) := Lib.hid (HB4.out.trans (HB5.out.mono HB4.out.size))
    have HBYL : Hid (BytesAt w5 ab l) := Lib.hid (HBY.out.keep fun b off s e => HB45.out.block b (HLB.out b off s e))
    have HD5 : Hid (BoxN w5 D [.pointer none] 24) := Lib.hid (HD4.out.below HB5.out)
    have HE5 : Hid (BoxN w5 (D + 1) [.int .i64 0] 25) := Lib.hid (HE4.out.below HB5.out)
    have HP5 := Lib.hid (HP.out.below HB5.out)
    have HZ5 : Hid (D + 3 ≤ w5.heap.size) := Lib.hid (Nat.le_trans HZ4.out HB5.out.size)
    go_wp2_with fail
    refine (equal_c HBY5.out HBYL.out HM.out HNN.out c5 cb).mono ?_
    rintro e w6 ⟨rfl, hw⟩
    subst hw
    by_cases heq : le = l
    · have hbt : (le == l) = true := by rw [heq]; exact beq_self_eq_true l
      rw [hbt]
      have HEQ : Hid (encB kd (tokPool rs ks) = l) := Lib.hid (HLE.out.trans heq)
      clear hbt heq
      go_wp2_with fail
      refine (need_yes w5).mono ?_
      rintro e w7 ⟨rfl, hw⟩
      subst hw
      have d1 := HD5.out.cell (j := 0) rfl
      have d2 := HD5.out.frozen 0
      have e1' : BoxN (w5.setCell ⟨D, 0, none⟩ (.pointer (some ⟨P, 0, none⟩))) (D + 1) [.int .i64 0] 25 := HE5.out.to (set_other (w := w5) (o := 0) (.pointer (some ⟨P, 0, none⟩)) (by omega))
      have e2' := e1'.cell (j := 0) rfl
      have e3' := e1'.frozen 0
      have HD6 : Hid (BoxN ((w5.setCell ⟨D, 0, none⟩ (.pointer (some ⟨P, 0, none⟩))).setCell ⟨D + 1, 0, none⟩ (.int .i64 0)) D [.pointer (some ⟨P, 0, none⟩)] 24) := Lib.hid ((HD5.out.set 0 _).to (set_other (w := w5.setCell ⟨D, 0, none⟩ (.pointer (some ⟨P, 0, none⟩))) (g := D + 1) (o := 0) (.int .i64 0) (by omega : D ≠ D + 1)))
      have HE6 : Hid (BoxN ((w5.setCell ⟨D, 0, none⟩ (.pointer (some ⟨P, 0, none⟩))).setCell ⟨D + 1, 0, none⟩ (.int .i64 0)) (D + 1) [.int .i64 0] 25) := Lib.hid (e1'.set 0 _)
      have HB6 : Hid (Below w.heap.size w ((w5.setCell ⟨D, 0, none⟩ (.pointer (some ⟨P, 0, none⟩))).setCell ⟨D + 1, 0, none⟩ (.int .i64 0))) := Lib.hid (below_set (below_set HB45.out (by rw [HDD.out]; exact Nat.le_refl _) _) (by rw [HDD.out]; omega) _)
      have HP6 : Hid (PoolIn ((w5.setCell ⟨D, 0, none⟩ (.pointer (some ⟨P, 0, none⟩))).setCell ⟨D + 1, 0, none⟩ (.int .i64 0)) w.heap.size role P M vr va lv (kd : Int) rs ks (ks.map fun k => k.pkg.name)) := Lib.hid <| by
        refine (HP5.out.keep (by rw [set_size, set_size]; exact Nat.le_refl _) fun b hb => ?_).base (by rw [HDD.out, HS3.out]; omega)
        have := HP5.out.lo b hb
        rw [HS3.out] at this
        exact (set_other _ (by omega)).trans (set_other _ (by omega))
      clear e1'
      go_wp2_with fail
      refine leaves_ok w _ l _ D (D + 1) rfl rfl _ _ HD6.out HE6.out (fun w8 hb8 => ?_)
      exact ⟨HB6.out.trans (hb8.mono HB6.out.size), .inr ⟨kd, rl, rs, ks, ats, role, P, M, vr, va, lv, rfl, HALL.out, HOK.out, HKD.out, HEQ.out, HP6.out.below hb8⟩⟩
    · have hbt : (le == l) = false := by simpa using heq
      rw [hbt]
      have HNO : Hid (∀ (kd : Nat) rl rs ks ats, rdAll l = some (kd, rl) → BuiltOK rl rs ks ats → encB kd (tokPool rs ks) ≠ l) := Lib.hid <| by
        intro kd2 rl2 rs2 ks2 ats2 h1 h2 h3
        rw [HALL.out] at h1
        injection h1 with h1
        injection h1 with h1 h4
        subst h1 h4
        have h5 := h2.det.2 _ _ _ HOK.out
        have h6 := h2.det.1
        have h7 := HOK.out.det.1
        rw [← h6] at h7
        rw [← h5, ← h7, HLE.out] at h3
        exact heq h3
      clear hbt heq
      go_wp2_with fail
      refine (need_no w5).mono ?_
      rintro e w7 ⟨rfl, hw⟩
      subst hw
      exact leaves_odd w w5 l _ D (D + 1) rfl rfl _ _ HD5.out HE5.out (by rw [HDD.out]; exact Nat.le_refl _) (by omega) HB45.out HNO.out
end Go.Proofs.YtbdankpkdhhlmaaGreat
