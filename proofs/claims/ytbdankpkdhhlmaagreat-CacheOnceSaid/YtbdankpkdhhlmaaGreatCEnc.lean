/-
  The writer in memory; it lays a number, a text: the contracts. Helper text; the conditions are those typed.
  The writer lays dependencies: the contracts. Helper text; the conditions are those typed.
  The writer lays a package: the contract. Helper text; the conditions are those typed.
  An integer as a number; packages by their repositories: a map of rows in memory. Helper text; the conditions are those typed.
  The bytes of a pool: plain words. No conditions beyond those typed.
-/
import Derived.Test.YtbdankpkdhhlmaaGreatCBack
import Derived.Test.YtbdankpkdhhlmaaGreatBothA
import Derived.Deep.AppendLies
namespace Go.Proofs.YtbdankpkdhhlmaaGreat
set_option linter.unusedVariables false
set_option linter.unusedSimpArgs false
open Go.RowKit Go.Maps

/-- The map of the texts' numbers. -/
def numF (T : List ByteArray) : Value → Option Value
  | .string s => if s ∈ T then some (.int .i64 (idxT T s : Int)) else none
  | _ => none
theorem numF_str (T : List ByteArray) (s : ByteArray) : numF T (.string s) = if s ∈ T then some (.int .i64 (idxT T s : Int)) else none := rfl
open Classical in
theorem numF_new {T : List ByteArray} {s : ByteArray} (h : s ∉ T) (u : Value) : numF (T ++ [s]) u = if u = .string s then some (.int .i64 (T.length : Int)) else numF T u := by
  by_cases hu : u = .string s
  · subst hu
    rw [if_pos rfl, numF_str, if_pos (by simp), idxT_new h]
  · rw [if_neg hu]
    cases u with
    | string v =>
      rw [numF_str, numF_str]
      have hv : ¬ v = s := fun e => hu (by rw [e])
      by_cases hm : v ∈ T
      · rw [if_pos (by simp [hm]), if_pos hm, idxT_append hm]
      · rw [if_neg (by simp [hm, hv]), if_neg hm]
    | _ => rfl

/-- The writer at P, in memory: its texts, its bytes. -/
structure WrM (w : World) (B P M : Nat) (vt vo : Value) (T : List ByteArray) (o : List UInt8) : Prop where
  box : BoxN w P [vt, .map (some M), vo] 74
  trow : w.ownsRow B 9 1 vt T.length (T.map .string)
  orow : w.ownsRow B 5 1 vo o.length (Lib.byteCells o)
  map : MapAt Tryz.prog 9 w M T.length (numF T)
  loP : B ≤ P
  loM : B ≤ M
  pm : P ≠ M
  tP : vt.ownBlock ≠ some P
  tM : vt.ownBlock ≠ some M
  oP : vo.ownBlock ≠ some P
  oM : vo.ownBlock ≠ some M
  apart : ∀ b, vt.ownBlock = some b → vo.ownBlock ≠ some b
/-- Its blocks. -/
def MW (P M : Nat) (vt vo : Value) (b : Nat) : Prop := b = P ∨ b = M ∨ vt.ownBlock = some b ∨ vo.ownBlock = some b
/-- The writer has noted the tokens ts. -/
def WrS (w : World) (B P : Nat) (ts : List Tok) (X : Nat → Prop) : Prop := ∃ M vt vo, WrM w B P M vt vo (textsOf ts) (outOf ts) ∧ (∀ t ∈ ts, t.ok) ∧ ts.length ≤ 1073741824 ∧ X = MW P M vt vo
def WrPost (w : World) (B P : Nat) (ts : List Tok) (X : Nat → Prop) (e : Ending) (w' : World) : Prop := e = .returned (.tuple #[]) ∧ ∃ X', WrS w' B P ts X' ∧ MMv X w X' w'
def WrNum (w : World) (B P M : Nat) (vt vo : Value) (T : List ByteArray) (o : List UInt8) (e : Ending) (w' : World) : Prop := e = .returned (.tuple #[]) ∧ ∃ v, WrM w' B P M vt v T o ∧ MMv (MW P M vt vo) w (MW P M vt v) w'

section
variable {w w' : World} {B P M : Nat} {vt vo : Value} {T : List ByteArray} {o : List UInt8} {ts : List Tok} {X : Nat → Prop}
theorem WrM.keep (h : WrM w B P M vt vo T o) (hk : ∀ b, MW P M vt vo b → w'.heap[b]? = w.heap[b]?) : WrM w' B P M vt vo T o :=
  ⟨h.box.to (hk P (.inl rfl)), ownsRow_to h.trow fun g hg => hk g (.inr (.inr (.inl hg))), ownsRow_to h.orow fun g hg => hk g (.inr (.inr (.inr hg))), h.map.block (hk M (.inr (.inl rfl))), h.loP, h.loM, h.pm, h.tP, h.tM, h.oP, h.oM, h.apart⟩
theorem WrM.lt (h : WrM w B P M vt vo T o) {b : Nat} (hb : MW P M vt vo b) : B ≤ b ∧ b < w.heap.size := by
  rcases hb with rfl | rfl | hb | hb
  · exact ⟨h.loP, h.box.lt⟩
  · exact ⟨h.loM, h.map.lt⟩
  · exact h.trow.lt b hb
  · exact h.orow.lt b hb
theorem WrS.lt (h : WrS w B P ts X) {b : Nat} (hb : X b) : B ≤ b ∧ b < w.heap.size := by
  obtain ⟨M, vt, vo, h1, _, _, rfl⟩ := h
  exact h1.lt hb
theorem WrS.keep (h : WrS w B P ts X) (hk : ∀ b, X b → w'.heap[b]? = w.heap[b]?) : WrS w' B P ts X := by
  obtain ⟨M, vt, vo, h1, h2, h3, rfl⟩ := h
  exact ⟨M, vt, vo, h1.keep hk, h2, h3, rfl⟩
theorem WrS.below (h : WrS w B P ts X) (hb : Below w.heap.size w w') : WrS w' B P ts X := h.keep fun b hx => hb.block b (h.lt hx).2
theorem ownsRow_lo {B' : Nat} {e : TypeId} {k n : Nat} {v : Value} {xs : List Value} (h : w.ownsRow B e k v n xs) (hB : B' ≤ B) : w.ownsRow B' e k v n xs := by
  refine ⟨h.1, ?_⟩
  rcases h.2 with hn | ⟨g, cap, cur, rfl, hB2, rest⟩
  · exact .inl hn
  · exact .inr ⟨g, cap, cur, rfl, Nat.le_trans hB hB2, rest⟩
theorem row_bytes {v : Value} {l : List UInt8} (h : w.ownsRow B 5 1 v l.length (Lib.byteCells l)) : ∃ a c, v = .slice a l.length c ∧ BytesAt w a l := by
  rcases h.2 with ⟨rfl, h0⟩ | ⟨g, cap, cur, rfl, _⟩
  · exact ⟨none, 0, by rw [h0], .inl (List.length_eq_zero_iff.1 h0)⟩
  · refine ⟨_, _, rfl, .inr ⟨g, 0, rfl, fun i hi => ?_⟩⟩
    have := h.cellAt i (by omega)
    rw [Nat.zero_add, this]
    simp [Lib.byteCells, List.getD, List.getElem?_eq_getElem hi]
theorem ownsRow_slice {e : TypeId} {k n : Nat} {v : Value} {xs : List Value} (h : w.ownsRow B e k v n xs) : ∃ a c, v = .slice a n c := by
  rcases h.2 with ⟨rfl, h0⟩ | ⟨g, cap, cur, rfl, _⟩
  · exact ⟨none, 0, by rw [h0]⟩
  · exact ⟨_, _, rfl⟩
theorem MMv.then {M0 M1 : Nat → Prop} {w0 w1 w2 : World} (h : MMv M0 w0 M1 w1) (k : Below w1.heap.size w1 w2) : MMv M0 w0 M1 w2 := h.trans (.of_below k)
/-- The bytes have been put; they are stored. -/
theorem WrM.put {w1 : World} (h : WrM w B P M vt vo T o) {v : Value} {o' : List UInt8} (hb : Below w.heap.size w w1) (hv : w1.ownsRow w.heap.size 5 1 v o'.length (Lib.byteCells o')) :
    WrM (w1.setCell ⟨P, 2, none⟩ v) B P M vt v T o' ∧ MMv (MW P M vt vo) w (MW P M vt v) (w1.setCell ⟨P, 2, none⟩ v) := by
  have hP := h.box.lt
  have hvl : ∀ b, v.ownBlock = some b → w.heap.size ≤ b := fun b e => (hv.lt b e).1
  have h1 := h.keep (w' := w1) (fun b hx => hb.block b (h.lt hx).2)
  have hB : B ≤ w.heap.size := Nat.le_trans h.loP (Nat.le_of_lt hP)
  have hne : ∀ b, b ≠ P → (w1.setCell ⟨P, 2, none⟩ v).heap[b]? = w1.heap[b]? := fun b hb => set_other v hb
  refine ⟨⟨h1.box.set 2 v, ?_, ?_, ?_, h.loP, h.loM, h.pm, h.tP, h.tM, fun e => by have := hvl P e; omega, fun e => by have := hvl M e; have := h.map.lt; omega, fun b e e2 => by have := hvl b e2; have := (h.trow.lt b e).2; omega⟩, ?_⟩
  · exact ownsRow_to h1.trow fun g hg => hne g (fun e => h.tP (by rw [← e]; exact hg))
  · exact ownsRow_to (ownsRow_lo hv hB) fun g hg => hne g (fun e => by have := hvl g hg; omega)
  · exact h1.map.block (hne M (fun e => h.pm e.symm))
  · refine ⟨hb.os, hb.tape, hb.output, by rw [set_size]; exact hb.size, fun b hl hx => ⟨?_, fun hx2 => ?_⟩⟩
    · rw [hne b (fun e => hx (.inl e)), hb.block b hl]
    · rcases hx2 with e | e | e | e
      · exact hx (.inl e)
      · exact hx (.inr (.inl e))
      · exact hx (.inr (.inr (.inl e)))
      · have := hvl b e
        omega
open Classical in
/-- A text more: the texts have grown, then the map. -/
theorem WrM.more {w1 w2 w3 : World} {v' : Value} {s : ByteArray} (h : WrM w B P M vt vo T o) (hb : Below w.heap.size w w1) (hs : s ∉ T)
    (hv : w2.ownsRow B 9 1 v' (T.length + 1) ((T ++ [s]).map .string)) (hg : w1.grownBy w2 vt.ownBlock) (hat : ∀ b, v'.ownBlock = some b → vt.ownBlock = some b ∨ w.heap.size ≤ b)
    (hm : MapAt Tryz.prog 9 w3 M (T.length + 1) (fun u => if u = .string s then some (.int .i64 (T.length : Int)) else numF T u)) (hg3 : (w2.setCell ⟨P, 0, none⟩ v').grownBy w3 (some M)) :
    WrM w3 B P M v' vo (T ++ [s]) o ∧ MMv (MW P M vt vo) w (MW P M v' vo) w3 := by
  have hP := h.box.lt
  have hM := h.map.lt
  have hn : ∀ b, b < w.heap.size → vt.ownBlock ≠ some b → w2.heap[b]? = w.heap[b]? := fun b hl e => by
    rw [hg.block b (Nat.lt_of_lt_of_le hl hb.size) (fun h => e h.symm), hb.block b hl]
  have h3 : ∀ b, b < w2.heap.size → b ≠ M → w3.heap[b]? = (w2.setCell ⟨P, 0, none⟩ v').heap[b]? := fun b hl e => hg3.block b (by rw [set_size]; exact hl) (fun h => e (Option.some.inj h))
  have hsz : w.heap.size ≤ w2.heap.size := Nat.le_trans hb.size hg.size
  have hne : ∀ b, b < w2.heap.size → b ≠ M → b ≠ P → w3.heap[b]? = w2.heap[b]? := fun b hl e e2 => by
    rw [h3 b hl e]
    exact set_other v' e2
  have hvP : v'.ownBlock ≠ some P := fun e => by
    rcases hat P e with e | e
    · exact h.tP e
    · omega
  have hvM : v'.ownBlock ≠ some M := fun e => by
    rcases hat M e with e | e
    · exact h.tM e
    · omega
  refine ⟨⟨?_, ?_, ?_, ?_, h.loP, h.loM, h.pm, hvP, hvM, h.oP, h.oM, fun b e e2 => ?_⟩, ?_⟩
  · have hb2 : BoxN w2 P [vt, .map (some M), vo] 74 := h.box.to (hn P hP h.tP)
    exact (hb2.set 0 v').to (h3 P (Nat.lt_of_lt_of_le hP hsz) h.pm)
  · rw [List.length_append, List.length_singleton]
    exact ownsRow_to hv fun g hgb => hne g (hv.lt g hgb).2 (fun e => hvM (by rw [← e]; exact hgb)) (fun e => hvP (by rw [← e]; exact hgb))
  · refine ownsRow_to h.orow fun g hgb => ?_
    have hl := (h.orow.lt g hgb).2
    rw [hne g (Nat.lt_of_lt_of_le hl hsz) (fun e => h.oM (by rw [← e]; exact hgb)) (fun e => h.oP (by rw [← e]; exact hgb)), hn g hl (fun e => h.apart g e hgb)]
  · rw [List.length_append, List.length_singleton]
    exact hm.congr fun u => numF_new hs u
  · rcases hat b e with e3 | e3
    · exact h.apart b e3 e2
    · have := (h.orow.lt b e2).2
      omega
  · refine ⟨hg3.os.trans (hg.os.trans hb.os), hg3.tape.trans (hg.tape.trans hb.tape), hg3.output.trans (hg.output.trans hb.output), Nat.le_trans hsz (by have := hg3.size; rw [set_size] at this; exact this), fun b hl hx => ⟨?_, fun hx2 => ?_⟩⟩
    · rw [hne b (Nat.lt_of_lt_of_le hl hsz) (fun e => hx (.inr (.inl e))) (fun e => hx (.inl e)), hn b hl (fun e => hx (.inr (.inr (.inl e))))]
    · rcases hx2 with e | e | e | e
      · exact hx (.inl e)
      · exact hx (.inr (.inl e))
      · rcases hat b e with e3 | e3
        · exact hx (.inr (.inr (.inl e3)))
        · omega
      · exact hx (.inr (.inr (.inr e)))
end

open Classical in
/-- What the walk meets behind the append. -/
theorem WrM.next {w w1 w2 : World} {B P M : Nat} {vt vo : Value} {T : List ByteArray} {o : List UInt8} {s : ByteArray} {n a5 c5 : _} (h : WrM w B P M vt vo T o) (hn : T.length = n) (hb : Below w.heap.size w w1) (hs : s ∉ T) (hsz : s.size ≤ maxLen) (hmax : n < maxLen)
    (hv : w2.ownsRow B 9 1 (.slice a5 (n + 1) c5) (n + 1) ((T.map .string) ++ [.string s])) (hg : w1.grownBy w2 vt.ownBlock) (hat : ∀ b, (Value.slice a5 (n + 1) c5).ownBlock = some b → vt.ownBlock = some b ∨ w.heap.size ≤ b) :
    w2.cell? ⟨P, 0, none⟩ = some vt ∧ w2.frozen? ⟨P, 0, none⟩ = false ∧ (w2.setCell ⟨P, 0, none⟩ (.slice a5 (n + 1) c5)).cell? ⟨P, 1, none⟩ = some (.map (some M)) ∧
      ∃ w3, (Instr.mapUpdate 72 (.map (some M)) (.string s) (.int .i64 (n : Int))).run Tryz.prog (w2.setCell ⟨P, 0, none⟩ (.slice a5 (n + 1) c5)) = .ok () w3 ∧ WrM w3 B P M (.slice a5 (n + 1) c5) vo (T ++ [s]) o ∧ MMv (MW P M vt vo) w (MW P M (.slice a5 (n + 1) c5) vo) w3 := by
  subst hn
  have hP := h.box.lt
  have hM := h.map.lt
  have hk : ∀ b, b < w.heap.size → vt.ownBlock ≠ some b → w2.heap[b]? = w.heap[b]? := fun b hl e => by
    rw [hg.block b (Nat.lt_of_lt_of_le hl hb.size) (fun h => e h.symm), hb.block b hl]
  have hbx : BoxN w2 P [vt, .map (some M), vo] 74 := h.box.to (hk P hP h.tP)
  have hmp : MapAt Tryz.prog 9 (w2.setCell ⟨P, 0, none⟩ (.slice a5 (T.length + 1) c5)) M T.length (numF T) := (h.map.block (hk M hM h.tM)).block (set_other _ (fun e => h.pm e.symm))
  refine ⟨hbx.cell (j := 0) rfl, hbx.frozen 0, (hbx.set 0 _).cell (j := 1) rfl, ?_⟩
  obtain ⟨w3, hrun, hm3, hg3, _⟩ := hmp.run_store (key := .string s) (val := .int .i64 (T.length : Int)) keyed9 Tryz.underlying72 hmax (key9 hsz) (fun u => if u = .string s then some (.int .i64 (T.length : Int)) else numF T u) (if_pos rfl) (fun u hu => if_neg hu)
  obtain ⟨r1, r2⟩ := h.more hb hs (v' := .slice a5 (T.length + 1) c5) (by rw [List.map_append]; exact hv) hg hat hm3 hg3
  exact ⟨w3, hrun, r1, r2⟩

set_option maxHeartbeats 2000000 in
set_option maxRecDepth 100000 in
/-- A number is laid: what is stored, in general. -/
theorem wnum_any {w : World} {B P M : Nat} {vt vo : Value} {T : List ByteArray} {o : List UInt8} (h : WrM w B P M vt vo T o) (n : Nat) (hn : n < 9223372036854775808) (hol : o.length ≤ 70368744177664) :
    Calls Tryz.prog 29 #[.pointer (some ⟨P, 0, none⟩), .int .i64 (n : Int)] w (WrNum w B P M vt vo T (o ++ Lib.uvarint n)) := by
  obtain ⟨a, c, hvo, hby⟩ := row_bytes h.orow
  have hPUT := put_in hby c n (by omega) (by omega)
  have HH := Lib.hid h
  have c2 := h.box.cell (j := 2) rfl
  rw [hvo] at c2
  have HPOST : Hid (∀ v w1, OwnB w v (o ++ Lib.uvarint n) w1 → WrNum w B P M vt vo T (o ++ Lib.uvarint n) (.returned (.tuple #[])) (w1.setCell ⟨P, 2, none⟩ v)) := fun v w1 ho => by
    obtain ⟨h1, h2⟩ := ho
    obtain ⟨r1, r2⟩ := HH.out.put h2 h1
    exact ⟨rfl, v, r1, r2⟩
  have HBX : Hid (∀ w1, Below w.heap.size w w1 → ∃ x, w1.cell? ⟨P, 2, none⟩ = some x ∧ w1.frozen? ⟨P, 2, none⟩ = false) := fun w1 hb => ⟨_, (HH.out.box.below hb).cell (j := 2) rfl, (HH.out.box.below hb).frozen 2⟩
  generalize WrNum w B P M vt vo T (o ++ Lib.uvarint n) = POST at HPOST ⊢
  have hw : IntKind.u64.wrap (n : Int) = (n : Int) := wraps_u64 _ (by omega) (by omega)
  replace hPUT := Lib.hid hPUT
  clear h hby hvo
  go_enter Tryz.func29, Tryz.ntmps29
  go_wp2_with fail
  refine hPUT.out.mono ?_
  rintro e w1 ⟨v, rfl, ho⟩
  obtain ⟨x, y2, z2⟩ := HBX.out w1 ho.2
  obtain ⟨a1, c1, rfl, _⟩ := row_bytes ho.1
  replace ho := Lib.hid ho
  go_wp2_with fail
  go_end0
  have hfin := HPOST.out _ w1 ho.out
  rw [List.length_append] at hfin
  exact hfin
theorem WrS.out_len {w : World} {B P : Nat} {ts : List Tok} {X : Nat → Prop} (h : WrS w B P ts X) : (outOf ts).length ≤ 70368744177664 := by
  obtain ⟨M, vt, vo, h1, h2, h3, _⟩ := h
  have := outOf_len (ts := ts) (by omega) h2
  omega
theorem WrNum.post {w0 w : World} {B P M : Nat} {vt vo : Value} {ts : List Tok} {X : Nat → Prop} {t : Tok} {e : Ending} {w' : World} (hok : ∀ u ∈ ts, u.ok) (ht : t.ok) (hf : ts.length + 1 ≤ 1073741824) (hm : MMv X w0 (MW P M vt vo) w)
    (h : WrNum w B P M vt vo (textsOf (ts ++ [t])) (outOf (ts ++ [t])) e w') : WrPost w0 B P (ts ++ [t]) X e w' := by
  obtain ⟨h1, v, h2, h3⟩ := h
  refine ⟨h1, _, ⟨M, vt, v, h2, fun u hu => ?_, by rw [List.length_append, List.length_singleton]; exact hf, rfl⟩, hm.trans h3⟩
  rcases List.mem_append.1 hu with hu | hu
  · exact hok u hu
  · rw [List.mem_singleton] at hu
    rw [hu]
    exact ht
/-- A number. -/
theorem wnum_c {w : World} {B P : Nat} {ts : List Tok} {X : Nat → Prop} (h : WrS w B P ts X) (n : Nat) (hn : n < 9223372036854775808) (hf : ts.length + 1 ≤ 1073741824) :
    Calls Tryz.prog 29 #[.pointer (some ⟨P, 0, none⟩), .int .i64 (n : Int)] w (WrPost w B P (ts ++ [.num n]) X) := by
  have hol := h.out_len
  obtain ⟨M, vt, vo, h1, h2, h3, rfl⟩ := h
  refine (wnum_any h1 n hn hol).mono fun e w' hp => ?_
  have ht : textsOf (ts ++ [.num n]) = textsOf ts := textsOf_snoc ts (.num n)
  refine WrNum.post (w := w) h2 (show n < 18446744073709551616 by omega) hf (MMv.refl _ _) ?_
  rw [outOf_snoc, ht]
  exact hp

set_option maxHeartbeats 4000000 in
set_option maxRecDepth 100000 in
/-- A text. -/
theorem wtext_c {w : World} {B P : Nat} {ts : List Tok} {X : Nat → Prop} (h : WrS w B P ts X) (s : ByteArray) (hs : s.size ≤ maxLen) (hf : ts.length + 1 ≤ 1073741824) :
    Calls Tryz.prog 30 #[.pointer (some ⟨P, 0, none⟩), .string s] w (WrPost w B P (ts ++ [.txt s]) X) := by
  have hol := h.out_len
  obtain ⟨M, vt, vo, h1, h2, h3, rfl⟩ := h
  have hlook := h1.map.run_look_ok keyed9 Tryz.underlying72 (Tryz.zeroValue3 w) (key9 hs)
  rw [numF_str] at hlook
  have c0 := h1.box.cell (j := 0) rfl
  have c1 := h1.box.cell (j := 1) rfl
  have htl := textsOf_len ts
  have HH := Lib.hid h1
  by_cases hm : s ∈ textsOf ts
  · rw [if_pos hm] at hlook
    have hlook2 : (Instr.lookup 72 (.map (some M)) (.string s) true).run Tryz.prog w = .ok (.tuple #[.int .i64 (idxT (textsOf ts) s : Int), .bool true]) w := hlook
    have hlt := idxT_lt hm
    have ht : textsOf (ts ++ [.txt s]) = textsOf ts := by rw [textsOf_snoc, addT_txt, if_pos hm]
    have hN : Hid (Calls Tryz.prog 29 #[.pointer (some ⟨P, 0, none⟩), .int .i64 (idxT (textsOf ts) s : Int)] w (WrPost w B P (ts ++ [.txt s]) (MW P M vt vo))) := Lib.hid <| (wnum_any h1 (idxT (textsOf ts) s) (by omega) hol).mono fun e w' hp => by
      refine WrNum.post (w := w) h2 trivial hf (MMv.refl _ _) ?_
      rw [outOf_snoc, ht]
      exact hp
    clear hlook h1 hm h2
    generalize idxT (textsOf ts) s = id at hlook2 hN hlt
    go_enter Tryz.func30, Tryz.ntmps30
    go_wp2_with fail
    refine hN.out.mono ?_
    rintro e w1 ⟨rfl, hp⟩
    replace hp := Lib.hid hp
    go_wp2_with fail
    go_end0
    exact ⟨rfl, hp.out⟩
  · rw [if_neg hm] at hlook
    have hlook2 : (Instr.lookup 72 (.map (some M)) (.string s) true).run Tryz.prog w = .ok (.tuple #[.int .i64 0, .bool false]) w := hlook
    have ht : textsOf (ts ++ [.txt s]) = textsOf ts ++ [s] := by rw [textsOf_snoc, addT_txt, if_neg hm]
    have ho : outOf (ts ++ [.txt s]) = outOf ts ++ Lib.uvarint (textsOf ts).length := by
      rw [outOf_snoc, ht]
      show _ ++ Lib.uvarint (idxT _ s) = _
      rw [idxT_new hm]
    have hN : Hid (∀ v' w3, WrM w3 B P M v' vo (textsOf ts ++ [s]) (outOf ts) → MMv (MW P M vt vo) w (MW P M v' vo) w3 → Calls Tryz.prog 29 #[.pointer (some ⟨P, 0, none⟩), .int .i64 ((textsOf ts).length : Int)] w3 (WrPost w B P (ts ++ [.txt s]) (MW P M vt vo))) := fun v' w3 h5 h6 =>
      (wnum_any h5 (textsOf ts).length (by omega) hol).mono fun e w' hp => by
        refine WrNum.post (w := w3) h2 trivial hf h6 ?_
        rw [ht, ho]
        exact hp
    obtain ⟨i0, hi, hz0, hz1, hz2⟩ := info_parts info9s
    obtain ⟨at_, ct, hvt⟩ := ownsRow_slice h1.trow
    subst hvt
    have HM := Lib.hid hm
    generalize hT : textsOf ts = T at *
    obtain ⟨n, hn⟩ : ∃ n, T.length = n := ⟨_, rfl⟩
    have htr := HH.out.trow
    rw [hn] at c0 htl hN
    have HTR : Hid (w.ownsRow B 9 1 (.slice at_ n ct) n (T.map .string)) := by
      rw [hn] at htr
      exact htr
    have hBw : B ≤ w.heap.size := Nat.le_trans HH.out.loP (Nat.le_of_lt HH.out.box.lt)
    have HNN := Lib.hid hn
    clear hlook h1 hm h2 ht ho hT htr
    rw [hn] at HH
    clear hn
    obtain ⟨w1, e1⟩ : ∃ w1, w.alloc (.cells #[.string s] 9) = w1 := ⟨_, rfl⟩
    have HB1 : Hid (Below w.heap.size w w1 ∧ w1.heap[w.heap.size]? = some (.cells #[.string s] 9 (0, 0)) ∧ w1.ownsRow B 9 1 (.slice at_ n ct) n (T.map .string)) := by
      rw [← e1]
      exact ⟨below1 _ _, heap_alloc_new w _, ownsRow_below HTR.out (below1 _ _)⟩
    have hs1 := HB1.out.1.size
    go_enter Tryz.func30, Tryz.ntmps30
    go_wp2_with (at_builtin; refine wpList_append_lies _ rfl (.tmp 26) (.tmp 28) 43 rfl B 9 i0 (.string ⟨#[]⟩) 1 16 Tryz.underlying43 hi hz0 hz1 hz2 rfl (by decide) (.slice at_ n ct) n (T.map .string) rfl HB1.out.2.2 ⟨w.heap.size, 0, none⟩ 1 1 [.string s] rfl rfl (World.news_of_block (cs := #[.string s]) (t := 9) (fr := (0, 0)) HB1.out.2.1) (by intro u hu; simp at hu; subst hu; rfl) (by decide) (by unfold maxLen; omega) (by omega) (by omega) w1.heap.size rfl ?_; intro g5 c5 w2 hown2 hgrow2 hat2 hlt2; obtain ⟨k0, k0f, k1, w3, hrun, hW3, hM3⟩ := HH.out.next HNN.out HB1.out.1 HM.out hs (by unfold maxLen; omega) hown2 hgrow2 (fun b hb => by rcases hat2 with h | h; exact .inl (by rw [h]; exact hb); exact .inr (by have e : some g5 = some b := hb; have e2 := Option.some.inj e; have e3 := HB1.out.1.size; omega)); have HCALL := Lib.hid (hN.out _ w3 hW3 hM3); clear hW3 hM3 hown2 hgrow2 hat2)
    refine HCALL.out.mono ?_
    rintro e w4 ⟨rfl, hp⟩
    replace hp := Lib.hid hp
    go_wp2_with fail
    go_end0
    refine ⟨rfl, ?_⟩
    rw [HNN.out]
    exact hp.out
end Go.Proofs.YtbdankpkdhhlmaaGreat
namespace Go.Proofs.YtbdankpkdhhlmaaGreat
set_option linter.unusedVariables false
set_option linter.unusedSimpArgs false
open Go.RowKit Go.Maps

/-- One behind the other. -/
theorem WrS.cell {w w' : World} {X X' : Nat → Prop} (hm : MMv X w X' w') {b o : Nat} {v : Value} (hx : ¬ X b) (h : w.cell? ⟨b, o, none⟩ = some v) : w'.cell? ⟨b, o, none⟩ = some v :=
  (World.cell?_of_block (w := w) (hm.block b (World.block_lt_of_cell? w _ h) hx).1).trans h

/-- Of one dependency. -/
def WDep (d : DepT) : Prop := ∀ (w : World) (B P : Nat) (ts : List Tok) (X S : Nat → Prop) (cs : List Value), WrS w B P ts X → DepC w S d cs → (∀ b, S b → ¬ X b ∧ b < w.heap.size) → formB d = true → ts.length + (tokDep d).length ≤ 1073741824 →
  Calls Tryz.prog 76 #[.pointer (some ⟨P, 0, none⟩), .agg cs.toArray] w (WrPost w B P (ts ++ tokDep d) X)
def preD {n : Nat} (args : Fin n → DepT) (i : Nat) : List Tok := ((List.finRange n).take i).flatMap fun i => tokDep (args i)
theorem preD_succ {n : Nat} (args : Fin n → DepT) {i : Nat} (h : i < n) : preD args (i + 1) = preD args i ++ tokDep (args ⟨i, h⟩) := by
  unfold preD
  rw [List.take_add_one, List.getElem?_eq_getElem (by simpa using h), Option.toList_some, List.flatMap_append, List.getElem_finRange]
  simp
theorem preD_all {n : Nat} (args : Fin n → DepT) : preD args n = (List.finRange n).flatMap fun i => tokDep (args i) := by
  unfold preD
  rw [List.take_of_length_le (by simp)]
theorem preD_le {n : Nat} (args : Fin n → DepT) {i : Nat} (h : i < n) : (preD args i).length + (tokDep (args ⟨i, h⟩)).length + 1 ≤ (tokDeps n args).length := by
  have h1 : preD args n = preD args (i + 1) ++ ((List.finRange n).drop (i + 1)).flatMap fun i => tokDep (args i) := by
    rw [preD_all]
    unfold preD
    rw [← List.flatMap_append, List.take_append_drop]
  rw [preD_succ args h, preD_all] at h1
  have h2 := congrArg List.length h1
  simp only [List.length_append] at h2
  unfold tokDeps
  rw [List.length_cons]
  omega

set_option maxHeartbeats 4000000 in
set_option maxRecDepth 100000 in
/-- A list of dependencies. -/
theorem wdeps_of {n : Nat} {args : Fin n → DepT} (IH : ∀ i, WDep (args i)) (w : World) (B P : Nat) (ts : List Tok) (X S : Nat → Prop) (v : Value) (h : WrS w B P ts X) (hv : DepsV w S n args v) (hS : ∀ b, S b → ¬ X b ∧ b < w.heap.size) (hf : ∀ i, formB (args i) = true) (hl : ts.length + (tokDeps n args).length ≤ 1073741824) :
    Calls Tryz.prog 57 #[.pointer (some ⟨P, 0, none⟩), v] w (WrPost w B P (ts ++ tokDeps n args) X) := by
  obtain ⟨a, c, rfl, hn, hin⟩ := hv
  have hlen1 : 1 ≤ (tokDeps n args).length := by unfold tokDeps; simp
  have hN := Lib.hid (wnum_c h n (by omega) (by omega))
  have HIN := Lib.hid hin
  have HIH := Lib.hid IH
  have HS := Lib.hid hS
  have HF := Lib.hid hf
  have HL := Lib.hid hl
  clear hin IH hS hf h
  have HALL : Hid (ts ++ tokDeps n args = ts ++ [.num n] ++ preD args n) := by
    rw [preD_all]
    unfold tokDeps
    rw [List.append_assoc]
    rfl
  obtain ⟨POST, hPOST⟩ : ∃ POST, WrPost w B P (ts ++ tokDeps n args) X = POST := ⟨_, rfl⟩
  rw [hPOST]
  have HP : Hid (∀ w' X', WrS w' B P (ts ++ [.num n] ++ preD args n) X' → MMv X w X' w' → POST (.returned (.tuple #[])) w') := fun w' X' h1 h2 => by
    rw [← hPOST, HALL.out]
    exact ⟨rfl, X', h1, h2⟩
  clear hPOST hlen1 hl
  go_enter Tryz.func57, Tryz.ntmps57
  go_wp2_with fail
  refine hN.out.mono ?_
  rintro e w1 ⟨rfl, X1, hs1, hm1⟩
  have H1 : Hid (WrS w1 B P (ts ++ [.num n] ++ preD args 0) X1 ∧ MMv X w X1 w1) := by
    have e0 : preD args 0 = [] := by unfold preD; simp
    rw [e0, List.append_nil]
    exact ⟨hs1, hm1⟩
  clear hs1 hm1 hN
  go_wp2_with fail
  go_loopw [12] (fun vi wr => ∃ i : Nat, vi = .int .i64 i ∧ i ≤ n ∧ Hid (∃ X', WrS wr B P (ts ++ [.num n] ++ preD args i) X' ∧ MMv X w X' wr)) (fun vi _ => n - (intOf vi).toNat)
  case atStart => exact ⟨0, rfl, Nat.zero_le _, X1, H1.out⟩
  case round =>
    clear H1
    obtain ⟨i, rfl, hin, HT⟩ := hrel
    obtain ⟨X', hs, hm⟩ := HT.out
    by_cases hlt : i < n
    · have hi1 : (i : Int) < (n : Int) := by omega
      obtain ⟨b, off, rfl, hSb, hi⟩ := HIN.out (by omega)
      obtain ⟨cs', hd, hcells⟩ := hi ⟨i, hlt⟩
      have hIH := HIH.out ⟨i, hlt⟩
      have hfi := HF.out ⟨i, hlt⟩
      have hpl := preD_le args hlt
      have hps := preD_succ args hlt
      have hl0 := HL.out
      obtain ⟨k', nm', op', ev', n', args', he⟩ : ∃ k' nm' op' ev' n' args', args ⟨i, hlt⟩ = .mk k' nm' op' ev' n' args' := by
        cases args ⟨i, hlt⟩ with
        | mk k' nm' op' ev' n' args' => exact ⟨k', nm', op', ev', n', args', rfl⟩
      rw [he] at hIH hfi hd hpl hps
      have hd0 := hd
      obtain ⟨a', c', rfl, _⟩ := hd0
      have hkeep : ∀ x, S x → x < w.heap.size → wr.heap[x]? = w.heap[x]? := fun x hx hxl => (hm.block x hxl (HS.out x hx).1).1
      have hd1 := hd.keep (S' := S) (fun _ h => h) hkeep (fun _ _ => trivial)
      have hq := hcells.keep (hkeep b hSb (HS.out b hSb).2)
      have q0 := hq 0 _ rfl
      have q1 := hq 1 _ rfl
      have q2 := hq 2 _ rfl
      have q3 := hq 3 _ rfl
      have q4 := hq 4 _ rfl
      rw [Nat.add_zero] at q0
      obtain ⟨w2, e2⟩ : ∃ w2, wr.alloc (.cells #[.int .i64 k', .string nm', .int .i64 op', .string ev', .slice a' n' c'] 52) = w2 := ⟨_, rfl⟩
      have HB2 : Hid (Below wr.heap.size wr w2 ∧ BoxN w2 wr.heap.size [.int .i64 k', .string nm', .int .i64 op', .string ev', .slice a' n' c'] 52) := by
        rw [← e2]
        exact ⟨below1 _ _, boxN_alloc _ _ _⟩
      have p0 := HB2.out.2.cell (j := 0) rfl
      have p1 := HB2.out.2.cell (j := 1) rfl
      have p2 := HB2.out.2.cell (j := 2) rfl
      have p3 := HB2.out.2.cell (j := 3) rfl
      have p4 := HB2.out.2.cell (j := 4) rfl
      have hlen : (ts ++ [Tok.num n] ++ preD args i).length + (tokDep (.mk k' nm' op' ev' n' args')).length ≤ 1073741824 := by
        simp only [List.length_append, List.length_singleton]
        omega
      have hC := hIH w2 B P _ X' S _ (hs.below HB2.out.1) (hd1.keep (S' := S) (fun _ h => h) (fun x hx hxl => HB2.out.1.block x hxl) (fun _ _ => trivial)) (fun x hx => ⟨fun hX => by
        by_cases e : x < w.heap.size
        · exact (hm.block x e (HS.out x hx).1).2 hX
        · exact e (HS.out x hx).2, Nat.lt_of_lt_of_le (HS.out x hx).2 (Nat.le_trans hm.size HB2.out.1.size)⟩) hfi hlen
      replace hC := Lib.hid hC
      have HPS := Lib.hid hps
      have HM := Lib.hid hm
      clear hq hd hd1 hkeep hm hs hi hIH hfi hpl hps hl0 hlen he hcells
      go_wp2_with fail
      refine hC.out.mono ?_
      rintro e w3 ⟨rfl, X3, hs3, hm3⟩
      have H3 : Hid (WrS w3 B P (ts ++ [.num n] ++ preD args (i + 1)) X3 ∧ MMv X w X3 w3) := by
        rw [HPS.out, ← List.append_assoc]
        exact ⟨hs3, HM.out.trans ((MMv.of_below HB2.out.1).trans hm3)⟩
      clear hs3 hm3 hC p0 p1 p2 p3 p4 q0 q1 q2 q3 q4
      go_wp2_with fail
      go_roundw
      case rel => exact ⟨i + 1, by go_num, by omega, X3, H3.out⟩
      case measure => simp [intOf]; omega
    · have hi1 : ¬ (i : Int) < (n : Int) := by omega
      have he : i = n := by omega
      subst he
      have hfin := Lib.hid (HP.out wr X' hs hm)
      clear hs hm HT
      go_wp2_with fail
      go_end0
      exact hfin.out

theorem WrS.on {w w1 : World} {B P : Nat} {ts : List Tok} {X S : Nat → Prop} {X1 : Nat → Prop} (hm : MMv X w X1 w1) (hS : ∀ b, S b → ¬ X b ∧ b < w.heap.size) : ∀ b, S b → ¬ X1 b ∧ b < w1.heap.size := fun b hb =>
  ⟨(hm.block b (hS b hb).2 (hS b hb).1).2, Nat.lt_of_lt_of_le (hS b hb).2 hm.size⟩
set_option maxHeartbeats 4000000 in
set_option maxRecDepth 100000 in
/-- A dependency. -/
theorem wdep_c : ∀ d : DepT, WDep d := by
  intro d
  induction d with
  | mk k nm op ev n args ih =>
    intro w B P ts X S cs h hd hS hf hl
    obtain ⟨v, rfl, hw, hnm, hev, hvv⟩ := depC_iff.1 hd
    obtain ⟨a, c, rfl, _⟩ := id hvv
    show Calls Tryz.prog 76 #[.pointer (some ⟨P, 0, none⟩), .agg #[.int .i64 k, .string nm, .int .i64 op, .string ev, .slice a n c]] w _
    obtain ⟨w1, e1⟩ : ∃ w1, w.alloc (.cells #[.int .i64 k, .string nm, .int .i64 op, .string ev, .slice a n c] 52) = w1 := ⟨_, rfl⟩
    have HB1 : Hid (Below w.heap.size w w1 ∧ BoxN w1 w.heap.size [.int .i64 k, .string nm, .int .i64 op, .string ev, .slice a n c] 52) := by
      rw [← e1]
      exact ⟨below1 _ _, boxN_alloc _ _ _⟩
    have hs1 := h.below HB1.out.1
    have hx1 : ¬ X w.heap.size := fun e => Nat.lt_irrefl _ (h.lt e).2
    have p0 := HB1.out.2.cell (j := 0) rfl
    have HX1 := Lib.hid hx1
    by_cases hk : k = 1
    · subst hk
      obtain ⟨hn, ho⟩ := dform_name hf rfl
      have ho' : 0 ≤ op ∧ op ≤ 7 := by omega
      obtain ⟨m, rfl⟩ : ∃ m : Nat, op = (m : Int) := ⟨op.toNat, by omega⟩
      rw [tokDep_name] at hl ⊢
      rw [Int.toNat_natCast] at hl ⊢
      simp only [List.length_cons] at hl
      obtain ⟨POST, hPOST⟩ : ∃ POST, WrPost w B P (ts ++ (.num 1 :: .txt nm :: .num m :: (if 0 < (m : Int) then [.txt ev] else []))) X = POST := ⟨_, rfl⟩
      rw [hPOST]
      have hP0 : Hid (∀ w' X', WrS w' B P (ts ++ [.num 1] ++ [.txt nm] ++ [.num m] ++ (if 0 < (m : Int) then [.txt ev] else [])) X' → MMv X w X' w' → POST (.returned (.tuple #[])) w') := Lib.hid fun w' X' h1 h2 => by
        rw [← hPOST]
        refine ⟨rfl, X', ?_, h2⟩
        have e : ts ++ (.num 1 :: .txt nm :: .num m :: (if 0 < (m : Int) then [.txt ev] else [])) = ts ++ [.num 1] ++ [.txt nm] ++ [.num m] ++ (if 0 < (m : Int) then [.txt ev] else []) := by simp
        rw [e]
        exact h1
      clear hPOST
      have hN : Hid (Calls Tryz.prog 29 #[.pointer (some ⟨P, 0, none⟩), .int .i64 1] w1 (WrPost w1 B P (ts ++ [.num 1]) X)) := Lib.hid (wnum_c hs1 1 (by decide) (by omega))
      clear hn ho
      clear hs1 hx1 hS hd hvv h ih
      go_enter Tryz.func76, Tryz.ntmps76
      go_wp2_with fail
      refine hN.out.mono ?_
      rintro e w2 ⟨rfl, X2, hs2, hm2⟩
      have hb2 := HB1.out.2.to (hm2.block _ HB1.out.2.lt HX1.out).1
      have HX2 := Lib.hid (hm2.block _ HB1.out.2.lt HX1.out).2
      have HM2 : Hid (MMv X w X2 w2) := (MMv.of_below HB1.out.1).trans hm2
      have HB2 := Lib.hid hb2
      clear p0 hN
      have p0 := hb2.cell (j := 0) rfl
      have p1 := hb2.cell (j := 1) rfl
      have hN := Lib.hid (wtext_c hs2 nm hnm (by simp only [List.length_append, List.length_singleton]; omega))
      clear hb2 hs2 hm2
      go_wp2_with fail
      refine hN.out.mono ?_
      rintro e w3 ⟨rfl, X3, hs3, hm3⟩
      have hb3 := HB2.out.to (hm3.block _ HB2.out.lt HX2.out).1
      have HX3 := Lib.hid (hm3.block _ HB2.out.lt HX2.out).2
      have HM3 : Hid (MMv X w X3 w3) := HM2.out.trans hm3
      have HB3 := Lib.hid hb3
      clear p0 p1 hN
      have p2 := hb3.cell (j := 2) rfl
      have hN := Lib.hid (wnum_c hs3 m (by omega) (by simp only [List.length_append, List.length_singleton]; omega))
      clear hb3 hs3 hm3
      go_wp2_with fail
      refine hN.out.mono ?_
      rintro e w4 ⟨rfl, X4, hs4, hm4⟩
      have hb4 := HB3.out.to (hm4.block _ HB3.out.lt HX3.out).1
      have HM4 : Hid (MMv X w X4 w4) := HM3.out.trans hm4
      have HS4 := Lib.hid hs4
      clear p2 hN
      have p2 := hb4.cell (j := 2) rfl
      have p3 := hb4.cell (j := 3) rfl
      clear hb4 hm4
      by_cases h0 : 0 < (m : Int)
      · rw [if_pos h0] at hP0 hl
        simp only [List.length_singleton] at hl
        have hN := Lib.hid (wtext_c hs4 ev hev (by simp only [List.length_append, List.length_singleton]; omega))
        clear hs4
        go_wp2_with fail
        refine hN.out.mono ?_
        rintro e w5 ⟨rfl, X5, hs5, hm5⟩
        have hfin := Lib.hid (hP0.out w5 X5 hs5 (HM4.out.trans hm5))
        clear hN hs5 hm5
        go_wp2_with fail
        go_end0
        exact hfin.out
      · rw [if_neg h0, List.append_nil] at hP0
        have hfin := Lib.hid (hP0.out w4 X4 hs4 HM4.out)
        clear hs4
        go_wp2_with fail
        go_end0
        exact hfin.out
    · obtain ⟨hk1, hk2, hz1, hz2, hz3, hn, hi⟩ := dform_node hf hk
      clear hz1 hz2 hz3
      obtain ⟨m, rfl⟩ : ∃ m : Nat, k = (m : Int) := ⟨k.toNat, by omega⟩
      rw [tokDep_node hk] at hl ⊢
      rw [Int.toNat_natCast] at hl ⊢
      simp only [List.length_cons] at hl
      obtain ⟨POST, hPOST⟩ : ∃ POST, WrPost w B P (ts ++ (.num m :: tokDeps n args)) X = POST := ⟨_, rfl⟩
      rw [hPOST]
      have hP0 : Hid (∀ w' X', WrS w' B P (ts ++ [.num m] ++ tokDeps n args) X' → MMv X w X' w' → POST (.returned (.tuple #[])) w') := Lib.hid fun w' X' h1 h2 => by
        rw [← hPOST]
        refine ⟨rfl, X', ?_, h2⟩
        have e : ts ++ (.num m :: tokDeps n args) = ts ++ [.num m] ++ tokDeps n args := by simp
        rw [e]
        exact h1
      clear hPOST
      have hN := Lib.hid (wnum_c hs1 m (by omega) (by omega))
      have HS := Lib.hid hS
      have HV := Lib.hid hvv
      have HI := Lib.hid hi
      have HIH := Lib.hid ih
      have hkb : ((m : Int) == 1) = false := by simpa using hk
      clear hs1 hx1 hS hd hvv h ih hi hk
      go_enter Tryz.func76, Tryz.ntmps76
      go_wp2_with fail
      refine hN.out.mono ?_
      rintro e w2 ⟨rfl, X2, hs2, hm2⟩
      have hb2 := HB1.out.2.to (hm2.block _ HB1.out.2.lt HX1.out).1
      have HM2 : Hid (MMv X w X2 w2) := (MMv.of_below HB1.out.1).trans hm2
      clear p0 hN
      have p0 := hb2.cell (j := 0) rfl
      have p4 := hb2.cell (j := 4) rfl
      have hD := Lib.hid (wdeps_of HIH.out w2 B P _ X2 S _ hs2 (HV.out.keep (S' := S) (fun _ h => h) (fun b hb hbl => (HM2.out.block b hbl (HS.out b hb).1).1)) (WrS.on (ts := ts) (B := B) (P := P) HM2.out HS.out) HI.out (by simp only [List.length_append, List.length_singleton]; omega))
      clear hb2 hs2 hm2
      go_wp2_with fail
      refine hD.out.mono ?_
      rintro e w3 ⟨rfl, X3, hs3, hm3⟩
      have hfin := Lib.hid (hP0.out w3 X3 hs3 (HM2.out.trans hm3))
      clear hD hs3 hm3
      go_wp2_with fail
      go_end0
      exact hfin.out
theorem wdeps_c {n : Nat} {args : Fin n → DepT} (w : World) (B P : Nat) (ts : List Tok) (X S : Nat → Prop) (v : Value) (h : WrS w B P ts X) (hv : DepsV w S n args v) (hS : ∀ b, S b → ¬ X b ∧ b < w.heap.size) (hf : ∀ i, formB (args i) = true) (hl : ts.length + (tokDeps n args).length ≤ 1073741824) :
    Calls Tryz.prog 57 #[.pointer (some ⟨P, 0, none⟩), v] w (WrPost w B P (ts ++ tokDeps n args) X) := wdeps_of (fun i => wdep_c (args i)) w B P ts X S v h hv hS hf hl
end Go.Proofs.YtbdankpkdhhlmaaGreat
namespace Go.Proofs.YtbdankpkdhhlmaaGreat
set_option linter.unusedVariables false
set_option linter.unusedSimpArgs false
open Go.RowKit Go.Maps

set_option maxRecDepth 100000 in
/-- The cache's lists. -/
theorem clists_c (b : Nat) (w : World) : Calls Tryz.prog 56 #[.pointer (some ⟨b, 0, none⟩)] w fun e w' => e = .returned (.slice (some ⟨w.heap.size, 0, none⟩) 7 7) ∧ Below w.heap.size w w' ∧ BoxN w' w.heap.size (placesL b) 115 := by
  go_enter Tryz.func56, Tryz.ntmps56
  go_wp2_with fail
  go_region
  all_goals
    go_wp2_with fail
    go_ret
    exact ⟨rfl, below_dr1 (below1 _ _), boxN_alloc _ _ _⟩
theorem places_at (b i : Nat) (h : i < 7) : (placesL b)[i]? = some (.pointer (some ⟨b, 4 + i, none⟩)) := by
  match i, h with
  | 0, _ | 1, _ | 2, _ | 3, _ | 4, _ | 5, _ | 6, _ => rfl
theorem pkgCells_at (nm ev ar ve : ByteArray) (v : Fin 7 → Value) (vf : Value) (i : Nat) (h : i < 7) : (pkgCells nm ev ar ve v vf)[4 + i]? = some (v ⟨i, h⟩) := by
  match i, h with
  | 0, _ | 1, _ | 2, _ | 3, _ | 4, _ | 5, _ | 6, _ => rfl
def preL (p : PkgT) (i : Nat) : List Tok := ((List.finRange 7).take i).flatMap fun j => tokDeps (p.n j) (p.deps j)
theorem preL_succ (p : PkgT) {i : Nat} (h : i < 7) : preL p (i + 1) = preL p i ++ tokDeps (p.n ⟨i, h⟩) (p.deps ⟨i, h⟩) := by
  unfold preL
  rw [List.take_add_one, List.getElem?_eq_getElem (by simpa using h), Option.toList_some, List.flatMap_append, List.getElem_finRange]
  simp
theorem preL_all (p : PkgT) : preL p 7 = (List.finRange 7).flatMap fun j => tokDeps (p.n j) (p.deps j) := by
  unfold preL
  rw [List.take_of_length_le (by simp)]
theorem preL_le (p : PkgT) {i : Nat} (h : i < 7) : (preL p i).length + (tokDeps (p.n ⟨i, h⟩) (p.deps ⟨i, h⟩)).length ≤ (preL p 7).length := by
  have h1 : preL p 7 = preL p (i + 1) ++ ((List.finRange 7).drop (i + 1)).flatMap fun j => tokDeps (p.n j) (p.deps j) := by
    rw [preL_all]
    unfold preL
    rw [← List.flatMap_append, List.take_append_drop]
  rw [preL_succ p h] at h1
  have h2 := congrArg List.length h1
  simp only [List.length_append] at h2
  omega
theorem tokPkg_parts (p : PkgT) : tokPkg p = [p.name, p.evr, p.arch, p.vendor].map .txt ++ preL p 7 ++ [.num p.files.length] ++ p.files.map .txt := by
  rw [preL_all]
  unfold tokPkg
  rw [List.append_assoc _ [Tok.num p.files.length]]
  rfl
theorem take_txt {l : List ByteArray} {i : Nat} (h : i < l.length) : (l.take (i + 1)).map Tok.txt = (l.take i).map .txt ++ [.txt l[i]] := by
  rw [List.take_add_one, List.getElem?_eq_getElem h, Option.toList_some, List.map_append]
  rfl

set_option maxHeartbeats 8000000 in
set_option maxRecDepth 100000 in
/-- A package. -/
theorem wpack_c (p : PkgT) (a : Fin 7 → Option Addr) (c : Fin 7 → Nat) (af : Option Addr) (nf cf : Nat) (w : World) (B P : Nat) (ts : List Tok) (X S : Nat → Prop) (h : WrS w B P ts X) (hv : PkgV w S p (fun i => .slice (a i) (p.n i) (c i)) (.slice af nf cf)) (hS : ∀ b, S b → ¬ X b ∧ b < w.heap.size) (hf : ∀ i j, formB (p.deps i j) = true) (hl : ts.length + (tokPkg p).length ≤ 1073741824) :
    Calls Tryz.prog 33 #[.pointer (some ⟨P, 0, none⟩), .agg #[.string p.name, .string p.evr, .string p.arch, .string p.vendor, .slice (a 0) (p.n 0) (c 0), .slice (a 1) (p.n 1) (c 1), .slice (a 2) (p.n 2) (c 2), .slice (a 3) (p.n 3) (c 3), .slice (a 4) (p.n 4) (c 4), .slice (a 5) (p.n 5) (c 5), .slice (a 6) (p.n 6) (c 6), .slice af nf cf]] w (WrPost w B P (ts ++ tokPkg p) X) := by
  obtain ⟨names, hnames⟩ : ∃ names, [p.name, p.evr, p.arch, p.vendor] = names := ⟨_, rfl⟩
  have hnl : names.length = 4 := by rw [← hnames]; rfl
  have hfl : p.files.length = nf := by
    obtain ⟨a2, c2, e, _⟩ := hv.files
    injection e with _ e _
    exact e.symm
  have hnsz : ∀ s ∈ names, s.size ≤ maxLen := by
    intro s hs
    rw [← hnames] at hs
    simp only [List.mem_cons, List.not_mem_nil, or_false] at hs
    rcases hs with rfl | rfl | rfl | rfl
    · exact hv.name
    · exact hv.evr
    · exact hv.arch
    · exact hv.vendor
  rw [tokPkg_parts, hnames] at hl ⊢
  simp only [List.length_append, List.length_map, List.length_singleton] at hl
  obtain ⟨w1, e1⟩ : ∃ w1, w.alloc (.cells #[.string p.name, .string p.evr, .string p.arch, .string p.vendor, .slice (a 0) (p.n 0) (c 0), .slice (a 1) (p.n 1) (c 1), .slice (a 2) (p.n 2) (c 2), .slice (a 3) (p.n 3) (c 3), .slice (a 4) (p.n 4) (c 4), .slice (a 5) (p.n 5) (c 5), .slice (a 6) (p.n 6) (c 6), .slice af nf cf] 45) = w1 := ⟨_, rfl⟩
  have HB1 : Hid (Below w.heap.size w w1 ∧ BoxN w1 w.heap.size (pkgCells p.name p.evr p.arch p.vendor (fun i => .slice (a i) (p.n i) (c i)) (.slice af nf cf)) 45) := by
    rw [← e1]
    exact ⟨below1 _ _, boxN_alloc _ _ _⟩
  obtain ⟨w2, e2⟩ : ∃ w2, w1.alloc (.cells #[.string p.name, .string p.evr, .string p.arch, .string p.vendor] 9) = w2 := ⟨_, rfl⟩
  have HB2 : Hid (Below w1.heap.size w1 w2 ∧ BoxN w2 w1.heap.size (names.map .string) 9) := by
    rw [← e2, ← hnames]
    exact ⟨below1 _ _, boxN_alloc _ _ _⟩
  obtain ⟨POST, hPOST⟩ : ∃ POST, WrPost w B P (ts ++ (names.map .txt ++ preL p 7 ++ [.num p.files.length] ++ p.files.map .txt)) X = POST := ⟨_, rfl⟩
  rw [hPOST]
  have HP : Hid (∀ w' X', WrS w' B P (ts ++ names.map .txt ++ preL p 7 ++ [.num p.files.length] ++ p.files.map .txt) X' → MMv X w X' w' → POST (.returned (.tuple #[])) w') := Lib.hid fun w' X' h1 h2 => by
    rw [← hPOST]
    refine ⟨rfl, X', ?_, h2⟩
    simp only [List.append_assoc] at h1 ⊢
    exact h1
  have h12 := below_tr HB1.out.1 HB2.out.1
  have HS2 : Hid (WrS w2 B P ts X) := h.below h12
  have HX : Hid (¬ X w.heap.size ∧ ¬ X w1.heap.size ∧ w.heap.size < w2.heap.size ∧ w1.heap.size < w2.heap.size) := ⟨fun e => Nat.lt_irrefl _ (h.lt e).2, fun e => by have := (h.lt e).2; have := HB1.out.1.size; omega, Nat.lt_of_lt_of_le HB1.out.2.lt HB2.out.1.size, HB2.out.2.lt⟩
  have HM2 : Hid (MMv X w X w2) := MMv.of_below h12
  have HV := Lib.hid hv
  have HSS := Lib.hid hS
  have HF := Lib.hid hf
  have HNS := Lib.hid hnsz
  have HNL := Lib.hid hnl
  have HFL := Lib.hid hfl
  have HL := Lib.hid hl
  have HBX : Hid (BoxN w2 w.heap.size (pkgCells p.name p.evr p.arch p.vendor (fun i => .slice (a i) (p.n i) (c i)) (.slice af nf cf)) 45) := HB1.out.2.below HB2.out.1
  have p0 := HB1.out.2.cell (j := 0) rfl
  have p1 := HB1.out.2.cell (j := 1) rfl
  have p2 := HB1.out.2.cell (j := 2) rfl
  have p3 := HB1.out.2.cell (j := 3) rfl
  clear hPOST hv hS hf hnsz hl h h12 hnames hnl hfl
  go_enter Tryz.func33, Tryz.ntmps33
  go_wp2_with fail
  clear p0 p1 p2 p3
  go_loopw [20] (fun vi wr => ∃ i : Nat, vi = .int .i64 i ∧ i ≤ 4 ∧ Hid (∃ X', WrS wr B P (ts ++ (names.take i).map .txt) X' ∧ MMv X w2 X' wr)) (fun vi _ => 4 - (intOf vi).toNat)
  case atStart => exact ⟨0, rfl, Nat.zero_le _, X, by rw [List.take_zero, List.map_nil, List.append_nil]; exact HS2.out, MMv.refl _ _⟩
  case round =>
    clear HS2
    obtain ⟨i, rfl, hin, HT⟩ := hrel
    obtain ⟨X', hs, hm⟩ := HT.out
    by_cases hlt : i < 4
    · have hi1 : (i : Int) < 4 := by omega
      have hil : i < names.length := by have := HNL.out; omega
      have q := (HB2.out.2.to (hm.block _ HX.out.2.2.2 HX.out.2.1).1).cell (j := i) (v := .string names[i]) (by simp [hil])
      have hsz := HNS.out names[i] (List.getElem_mem hil)
      have htk := take_txt hil
      have hC := Lib.hid (wtext_c hs names[i] hsz (by have := HL.out; have := HNL.out; simp only [List.length_append, List.length_map, List.length_take]; omega))
      generalize names[i] = s at q hsz htk hC
      have HTK := Lib.hid htk
      have HMM := Lib.hid hm
      clear htk hsz hs hm
      go_wp2_with fail
      refine hC.out.mono ?_
      rintro e w3 ⟨rfl, X3, hs3, hm3⟩
      have H3 : Hid (WrS w3 B P (ts ++ (names.take (i + 1)).map .txt) X3 ∧ MMv X w2 X3 w3) := by
        rw [HTK.out, ← List.append_assoc]
        exact ⟨hs3, HMM.out.trans hm3⟩
      clear hs3 hm3 hC q
      go_wp2_with fail
      go_roundw
      case rel => exact ⟨i + 1, by go_num, by omega, X3, H3.out⟩
      case measure => simp [intOf]; omega
    · have hi1 : ¬ (i : Int) < 4 := by omega
      have he : i = 4 := by omega
      subst he
      obtain ⟨wA, rfl⟩ : ∃ x : World, x = wr := ⟨_, rfl⟩
      rw [List.take_of_length_le (by have := HNL.out; omega)] at hs
      have HS3 := Lib.hid hs
      have HM3 : Hid (MMv X w2 X' wA) := hm
      clear hs hm HT hlt hin
      go_wp2_with fail
      refine (clists_c w.heap.size wA).mono ?_
      rintro e w4 ⟨rfl, hb4, hx4⟩
      obtain ⟨L, hL⟩ : ∃ L, wA.heap.size = L := ⟨_, rfl⟩
      rw [hL] at hx4 ⊢
      have HX4 : Hid (¬ X' L ∧ L < w4.heap.size) := by
        rw [← hL] at hx4 ⊢
        exact ⟨fun e => Nat.lt_irrefl _ (HS3.out.lt e).2, hx4.lt⟩
      have HB4 := Lib.hid hx4
      have HS4 : Hid (WrS w4 B P (ts ++ names.map .txt) X') := HS3.out.below hb4
      have HM4 : Hid (MMv X w2 X' w4) := HM3.out.then hb4
      clear hb4 hx4 hL HS3 HM3
      go_wp2_with fail
      go_loopw [30] (fun vi wr => ∃ i : Nat, vi = .int .i64 i ∧ i ≤ 7 ∧ Hid (∃ X5, WrS wr B P (ts ++ names.map .txt ++ preL p i) X5 ∧ MMv X' w4 X5 wr)) (fun vi _ => 7 - (intOf vi).toNat)
      case atStart => exact ⟨0, rfl, Nat.zero_le _, X', by
        have e0 : preL p 0 = [] := by unfold preL; simp
        rw [e0, List.append_nil]
        exact HS4.out, MMv.refl _ _⟩
      case round =>
        clear HS4
        obtain ⟨i, rfl, hin, HT⟩ := hrel
        obtain ⟨X5, hs, hm⟩ := HT.out
        have HMT : Hid (MMv X w2 X5 wr) := HM4.out.trans hm
        by_cases hlt : i < 7
        · have hi1 : (i : Int) < 7 := by omega
          have q := (HB4.out.to (hm.block _ HX4.out.2 HX4.out.1).1).cell (places_at w.heap.size i hlt)
          have hbx := HBX.out.to (HMT.out.block _ HX.out.2.2.1 HX.out.1).1
          have r := hbx.cell (pkgCells_at p.name p.evr p.arch p.vendor (fun i => .slice (a i) (p.n i) (c i)) (.slice af nf cf) i hlt)
          have hps := preL_succ p hlt
          have hpl := preL_le p hlt
          have hdv : DepsV wr S (p.n ⟨i, hlt⟩) (p.deps ⟨i, hlt⟩) (.slice (a ⟨i, hlt⟩) (p.n ⟨i, hlt⟩) (c ⟨i, hlt⟩)) := (HV.out.deps ⟨i, hlt⟩).keep (fun _ h => h) (fun b hb hbl => ((HM2.out.trans HMT.out).block b hbl (HSS.out b hb).1).1)
          have hC := Lib.hid (wdeps_c wr B P _ X5 S _ hs hdv (WrS.on (ts := ts) (B := B) (P := P) (HM2.out.trans HMT.out) HSS.out) (HF.out ⟨i, hlt⟩) (by have := HL.out; simp only [List.length_append, List.length_map]; omega))
          have HPS := Lib.hid hps
          have HMM := Lib.hid hm
          have r' : wr.cell? ⟨w.heap.size, 4 + i, none⟩ = some (.slice (a ⟨i, hlt⟩) (p.n ⟨i, hlt⟩) (c ⟨i, hlt⟩)) := r
          generalize a ⟨i, hlt⟩ = ai at r' hC
          generalize c ⟨i, hlt⟩ = ci at r' hC
          clear hps hpl hdv hs hm hbx r
          go_wp2_with fail
          refine hC.out.mono ?_
          rintro e w6 ⟨rfl, X6, hs6, hm6⟩
          have H6 : Hid (WrS w6 B P (ts ++ names.map .txt ++ preL p (i + 1)) X6 ∧ MMv X' w4 X6 w6) := by
            rw [HPS.out, ← List.append_assoc]
            exact ⟨hs6, HMM.out.trans hm6⟩
          clear hs6 hm6 hC q r'
          go_wp2_with fail
          go_roundw
          case rel => exact ⟨i + 1, by go_num, by omega, X6, H6.out⟩
          case measure => simp [intOf]; omega
        · have hi1 : ¬ (i : Int) < 7 := by omega
          have he : i = 7 := by omega
          subst he
          have hbx := HBX.out.to (HMT.out.block _ HX.out.2.2.1 HX.out.1).1
          have r := hbx.cell (j := 11) rfl
          have hnf : nf < 9223372036854775808 := by
            obtain ⟨a2, c2, e, _, hn, _⟩ := HV.out.files
            have := HFL.out
            omega
          have hC := wnum_c hs nf hnf (by have := HL.out; have := HFL.out; simp only [List.length_append, List.length_map]; omega)
          have HX5 := Lib.hid (HMT.out.block _ HX.out.2.2.1 HX.out.1).2
          have HBX5 := Lib.hid hbx
          replace hC := Lib.hid hC
          clear hs hm hbx HT hlt hin
          go_wp2_with fail
          refine hC.out.mono ?_
          rintro e w6 ⟨rfl, X6, hs6, hm6⟩
          have hbx := HBX5.out.to (hm6.block _ HBX5.out.lt HX5.out).1
          clear r
          have r := hbx.cell (j := 11) rfl
          have HM6 : Hid (MMv X w X6 w6) := HM2.out.trans (HMT.out.trans hm6)
          have HS6 := Lib.hid hs6
          clear hs6 hm6 hC hbx
          go_wp2_with fail
          clear r
          obtain ⟨wD, rfl⟩ : ∃ x : World, x = wr := ⟨_, rfl⟩
          go_loopw [48] (fun vi wr => ∃ i : Nat, vi = .int .i64 i ∧ i ≤ nf ∧ Hid (∃ X7, WrS wr B P (ts ++ names.map .txt ++ preL p 7 ++ [.num nf] ++ (p.files.take i).map .txt) X7 ∧ MMv X w X7 wr)) (fun vi _ => nf - (intOf vi).toNat)
          case atStart => exact ⟨0, rfl, Nat.zero_le _, X6, by rw [List.take_zero, List.map_nil, List.append_nil]; exact HS6.out, HM6.out⟩
          case round =>
            clear HS6
            obtain ⟨i, rfl, hin, HT⟩ := hrel
            obtain ⟨X7, hs, hm⟩ := HT.out
            by_cases hlt : i < nf
            · have hi1 : (i : Int) < (nf : Int) := by omega
              have hil : i < p.files.length := by have := HFL.out; omega
              obtain ⟨a2, c2, he2, hsz2, _, hfi⟩ := HV.out.files
              obtain ⟨b, off, e3, hSb, hcell⟩ := hfi (by intro e; rw [e] at hil; exact Nat.not_lt_zero _ hil)
              injection he2 with he2 he3 he4
              clear he3 he4
              subst he2
              subst e3
              have q0 := hcell i hil
              have q := WrS.cell hm (HSS.out b hSb).1 q0
              have hsz := hsz2 p.files[i] (List.getElem_mem hil)
              have htk := take_txt hil
              have hC := Lib.hid (wtext_c hs p.files[i] hsz (by have := HL.out; have := HFL.out; simp only [List.length_append, List.length_map, List.length_take, List.length_singleton]; omega))
              generalize p.files[i] = s at q hsz htk hC
              have HTK := Lib.hid htk
              have HMM := Lib.hid hm
              clear htk hsz hs hm q0 hcell hfi hsz2
              go_wp2_with fail
              refine hC.out.mono ?_
              rintro e w8 ⟨rfl, X8, hs8, hm8⟩
              have H8 : Hid (WrS w8 B P (ts ++ names.map .txt ++ preL p 7 ++ [.num nf] ++ (p.files.take (i + 1)).map .txt) X8 ∧ MMv X w X8 w8) := by
                rw [HTK.out, ← List.append_assoc]
                exact ⟨hs8, HMM.out.trans hm8⟩
              clear hs8 hm8 hC q
              go_wp2_with fail
              go_roundw
              case rel => exact ⟨i + 1, by go_num, by omega, X8, H8.out⟩
              case measure => simp [intOf]; omega
            · have hi1 : ¬ (i : Int) < (nf : Int) := by omega
              have he : i = nf := by omega
              subst he
              have hfin : Hid (POST (.returned (.tuple #[])) wr) := by
                rw [List.take_of_length_le (by have := HFL.out; omega)] at hs
                refine HP.out wr X7 ?_ hm
                rw [HFL.out]
                exact hs
              clear hs hm HT
              go_wp2_with fail
              go_end0
              exact hfin.out
end Go.Proofs.YtbdankpkdhhlmaaGreat
namespace Go.Proofs.YtbdankpkdhhlmaaGreat
set_option linter.unusedVariables false
set_option linter.unusedSimpArgs false
open Go.RowKit Go.Maps

theorem xor_ones (a : Nat) (h : a < 18446744073709551616) : a ^^^ 18446744073709551615 = 18446744073709551615 - a := by
  have h1 : (BitVec.ofNat 64 a ^^^ BitVec.allOnes 64).toNat = a ^^^ 18446744073709551615 := by
    rw [BitVec.toNat_xor, BitVec.toNat_ofNat, Nat.mod_eq_of_lt h, BitVec.toNat_allOnes]
  rw [← h1, BitVec.xor_allOnes, BitVec.toNat_not, BitVec.toNat_ofNat, Nat.mod_eq_of_lt h]
set_option maxRecDepth 100000 in
/-- zigzag. -/
theorem zigzag_c (n : Int) (h1 : -9223372036854775808 ≤ n) (h2 : n ≤ 9223372036854775807) (w : World) : Calls Tryz.prog 32 #[.int .i64 n] w fun e w' => e = .returned (.int .u64 (zig n : Int)) ∧ w = w' := by
  by_cases h0 : 0 ≤ n
  · have hz : bits BinOp.xor IntKind.u64 (n * 2) (n / 9223372036854775808) = (zig n : Int) := by
      have e1 : n / 9223372036854775808 = ((0 : Nat) : Int) := by omega
      have e2 : n * 2 = (((n * 2).toNat : Nat) : Int) := by omega
      rw [e1, e2, bits_xor_u64_nat _ _ (by omega) (by omega), Nat.xor_zero]
      unfold zig
      rw [if_pos h0]
      omega
    replace hz := Lib.hid hz
    go_enter Tryz.func32, Tryz.ntmps32
    go_wp2_with fail
    rw [hz.out]
    go_ret
    exact ⟨rfl, rfl⟩
  · have hz : bits BinOp.xor IntKind.u64 (IntKind.u64.wrap (IntKind.u64.wrap n * 2)) (IntKind.u64.wrap (n / 9223372036854775808)) = (zig n : Int) := by
      have e1 : IntKind.u64.wrap (n / 9223372036854775808) = ((18446744073709551615 : Nat) : Int) := by
        rw [IntKind.wrap_u64]
        omega
      have e2 : IntKind.u64.wrap (IntKind.u64.wrap n * 2) = (((n * 2 + 18446744073709551616).toNat : Nat) : Int) := by
        rw [IntKind.wrap_u64, IntKind.wrap_u64]
        omega
      rw [e1, e2, bits_xor_u64_nat _ _ (by omega) (by omega), xor_ones _ (by omega)]
      unfold zig
      rw [if_neg h0]
      omega
    replace hz := Lib.hid hz
    go_enter Tryz.func32, Tryz.ntmps32
    go_wp2_with fail
    rw [hz.out]
    go_ret
    exact ⟨rfl, rfl⟩

/-! ### packages by their repositories -/
/-- Those of a repository, in order. -/
def pkgsAt (ks : List KeptT) (i : Nat) : List PkgT := (ks.filter fun k => decide (k.at_ = i)).map (·.pkg)
theorem pkgsAt_snoc (ks : List KeptT) (k : KeptT) (i : Nat) : pkgsAt (ks ++ [k]) i = if k.at_ = i then pkgsAt ks i ++ [k.pkg] else pkgsAt ks i := by
  unfold pkgsAt
  rw [List.filter_append]
  by_cases h : k.at_ = i
  · rw [if_pos h]; simp [h]
  · rw [if_neg h]; simp [h]
theorem pkgsAt_len (ks : List KeptT) (i : Nat) : (pkgsAt ks i).length ≤ ks.length := by
  unfold pkgsAt
  rw [List.length_map]
  exact List.length_filter_le _ _
theorem mem_pkgsAt {ks : List KeptT} {i : Nat} {p : PkgT} (h : p ∈ pkgsAt ks i) : ∃ k ∈ ks, k.pkg = p ∧ k.at_ = i := by
  unfold pkgsAt at h
  obtain ⟨k, hk, e⟩ := List.mem_map.1 h
  rw [List.mem_filter] at hk
  exact ⟨k, hk.1, e, by simpa using hk.2⟩
/-- What the map tells. -/
def grpF (ks : List KeptT) (lv : Nat → Value) : Value → Option Value
  | .int .i64 i => if 0 ≤ i ∧ pkgsAt ks i.toNat ≠ [] then some (lv i.toNat) else none
  | _ => none
open Classical in
theorem grpF_int (ks : List KeptT) (lv : Nat → Value) (i : Nat) : grpF ks lv (.int .i64 (i : Int)) = if pkgsAt ks i ≠ [] then some (lv i) else none := by
  show (if 0 ≤ (i : Int) ∧ pkgsAt ks (i : Int).toNat ≠ [] then some (lv (i : Int).toNat) else none) = _
  rw [Int.toNat_natCast]
  by_cases h : pkgsAt ks i ≠ []
  · rw [if_pos ⟨by omega, h⟩, if_pos h]
  · rw [if_neg (fun e => h e.2), if_neg h]
structure PRow (w : World) (L : Nat) (C : Nat → Prop) (v : Value) (ps : List PkgT) (xs : List Value) : Prop where
  row : w.ownsRow L 45 12 v ps.length xs
  has : ∀ j (h : j < ps.length), ∃ (a : Fin 7 → Option Addr) (c : Fin 7 → Nat) (af : Option Addr) (nf cf : Nat), PkgV w C ps[j] (fun i => .slice (a i) (ps[j].n i) (c i)) (.slice af nf cf) ∧
    ∀ r u, (pkgCells ps[j].name ps[j].evr ps[j].arch ps[j].vendor (fun i => .slice (a i) (ps[j].n i) (c i)) (.slice af nf cf))[r]? = some u → xs[j * 12 + r]? = some u
structure GrpIn (w : World) (L R : Nat) (C : Nat → Prop) (lv : Nat → Value) (ks : List KeptT) : Prop where
  map : MapAt Tryz.prog 3 w R ks.length (grpF ks lv)
  rows : ∀ i, pkgsAt ks i ≠ [] → ∃ xs, PRow w L C (lv i) (pkgsAt ks i) xs
  lo : L ≤ R
  rR : ∀ i, pkgsAt ks i ≠ [] → (lv i).ownBlock ≠ some R
  apart : ∀ i j b, pkgsAt ks i ≠ [] → pkgsAt ks j ≠ [] → (lv i).ownBlock = some b → (lv j).ownBlock = some b → i = j
  con : ∀ b, C b → L ≤ b ∧ b < w.heap.size ∧ b ≠ R ∧ ∀ i, pkgsAt ks i ≠ [] → (lv i).ownBlock ≠ some b
/-- Its blocks that are written. -/
def GB (R : Nat) (lv : Nat → Value) (ks : List KeptT) (b : Nat) : Prop := b = R ∨ ∃ i, pkgsAt ks i ≠ [] ∧ (lv i).ownBlock = some b
section
variable {w w' : World} {L R : Nat} {C : Nat → Prop} {lv : Nat → Value} {ks : List KeptT}
theorem PRow.keep {v : Value} {ps : List PkgT} {xs : List Value} (h : PRow w L C v ps xs) {C' : Nat → Prop} (hC : ∀ b, C b → C' b) (hk : ∀ b, C b → b < w.heap.size → w'.heap[b]? = w.heap[b]?) (hv : ∀ b, v.ownBlock = some b → w'.heap[b]? = w.heap[b]?) : PRow w' L C' v ps xs := by
  refine ⟨ownsRow_to h.row hv, fun j hj => ?_⟩
  obtain ⟨a, c, af, nf, cf, h1, h2⟩ := h.has j hj
  exact ⟨a, c, af, nf, cf, h1.keep hC hk, h2⟩
theorem GrpIn.lt (h : GrpIn w L R C lv ks) {b : Nat} (hb : GB R lv ks b) : L ≤ b ∧ b < w.heap.size := by
  rcases hb with rfl | ⟨i, h1, h2⟩
  · exact ⟨h.lo, h.map.lt⟩
  · obtain ⟨xs, h3⟩ := h.rows i h1
    exact h3.row.lt b h2
theorem GrpIn.keep (h : GrpIn w L R C lv ks) (hs : w.heap.size ≤ w'.heap.size) (hk : ∀ b, C b ∨ GB R lv ks b → w'.heap[b]? = w.heap[b]?) : GrpIn w' L R C lv ks := by
  refine ⟨h.map.block (hk R (.inr (.inl rfl))), fun i hi => ?_, h.lo, h.rR, h.apart, fun b hb => ?_⟩
  · obtain ⟨xs, h1⟩ := h.rows i hi
    exact ⟨xs, h1.keep (fun _ h => h) (fun b hb _ => hk b (.inl hb)) (fun b hb => hk b (.inr (.inr ⟨i, hi, hb⟩)))⟩
  · obtain ⟨h1, h2, h3, h4⟩ := h.con b hb
    exact ⟨h1, Nat.lt_of_lt_of_le h2 hs, h3, h4⟩
theorem GrpIn.below (h : GrpIn w L R C lv ks) (hb : Below w.heap.size w w') : GrpIn w' L R C lv ks :=
  h.keep hb.size fun b hx => by
    rcases hx with hx | hx
    · exact hb.block b (h.con b hx).2.1
    · exact hb.block b (h.lt hx).2
theorem GrpIn.start (w : World) (L : Nat) (hL : L ≤ w.heap.size) (lv : Nat → Value) : GrpIn (w.alloc (.map #[] 0)) L w.heap.size (fun _ => False) lv [] := by
  refine ⟨(MapAt.made Tryz.prog 3 w).congr fun u => ?_, fun i hi => absurd rfl hi, hL, fun i hi => absurd rfl hi, fun i j b hi => absurd rfl hi, fun b hb => hb.elim⟩
  unfold grpF
  split
  · rw [if_neg (fun e => e.2 rfl)]
  · rfl
/-- The slice of a repository's packages, nil where there is none. -/
noncomputable def curP (ks : List KeptT) (lv : Nat → Value) (i : Nat) : Value := open Classical in if pkgsAt ks i ≠ [] then lv i else .slice none 0 0
theorem GrpIn.cur (h : GrpIn w L R C lv ks) (i : Nat) : ∃ a c xs, curP ks lv i = .slice a (pkgsAt ks i).length c ∧ PRow w L C (.slice a (pkgsAt ks i).length c) (pkgsAt ks i) xs := by
  unfold curP
  by_cases h0 : pkgsAt ks i ≠ []
  · rw [if_pos h0]
    obtain ⟨xs, h1⟩ := h.rows i h0
    obtain ⟨a, c, e⟩ := ownsRow_slice h1.row
    exact ⟨a, c, xs, e, e ▸ h1⟩
  · rw [if_neg h0]
    have h1 : pkgsAt ks i = [] := Classical.not_not.1 h0
    rw [h1]
    exact ⟨none, 0, [], rfl, World.ownsRow_nil _ _ _ _, fun j hj => absurd hj (Nat.not_lt_zero _)⟩
theorem keyWf {i : Int} (h0 : -9223372036854775808 ≤ i) (h1 : i ≤ 9223372036854775807) : (Lit.int .i64 i).wf = true := by
  have e1 : IntKind.i64.min = -9223372036854775808 := by decide
  have e2 : IntKind.i64.max = 9223372036854775807 := by decide
  simp [Lit.wf, IntKind.wrap, IntKind.bits, IntKind.signed, e1, e2]
  omega
theorem GrpIn.look (h : GrpIn w L R C lv ks) {i : Nat} (hi : i < 9223372036854775808) : (Instr.lookup 75 (.map (some R)) (.int .i64 (i : Int)) false).run Tryz.prog w = .ok (curP ks lv i) w := by
  rw [h.map.run_look keyed3 Tryz.underlying75 (Tryz.zeroValue38 w) (key3 (keyWf (by omega) (by omega))), grpF_int]
  unfold curP
  by_cases h0 : pkgsAt ks i ≠ []
  · rw [if_pos h0, if_pos h0]; rfl
  · rw [if_neg h0, if_neg h0]; rfl
theorem curP_own (ks : List KeptT) (lv : Nat → Value) (i : Nat) {b : Nat} (h : (curP ks lv i).ownBlock = some b) : pkgsAt ks i ≠ [] ∧ (lv i).ownBlock = some b := by
  unfold curP at h
  by_cases h0 : pkgsAt ks i ≠ []
  · rw [if_pos h0] at h
    exact ⟨h0, h⟩
  · rw [if_neg h0] at h
    cases h
open Classical in
theorem grpF_next (ks : List KeptT) (lv : Nat → Value) (k : KeptT) (v : Value) (u : Value) : grpF (ks ++ [k]) (fun i => if i = k.at_ then v else lv i) u = if u = .int .i64 (k.at_ : Int) then some v else grpF ks lv u := by
  by_cases hu : u = .int .i64 (k.at_ : Int)
  · subst hu
    rw [if_pos rfl, grpF_int, if_pos rfl, pkgsAt_snoc, if_pos rfl, if_pos (by simp)]
  · rw [if_neg hu]
    unfold grpF
    split
    · rename_i i
      by_cases hi : 0 ≤ i
      · have hne : ¬ k.at_ = i.toNat := fun e => hu (by rw [e, Int.toNat_of_nonneg hi])
        simp only [pkgsAt_snoc, if_neg hne, if_neg (fun e : i.toNat = k.at_ => hne e.symm)]
      · rw [if_neg (fun e => hi e.1), if_neg (fun e => hi e.1)]
    · rfl
open Classical in
theorem GrpIn.next {w1 w2 : World} {C1 : Nat → Prop} (h : GrpIn w L R C lv ks) (hb : Below w.heap.size w w1) (k : KeptT) {a : Fin 7 → Option Addr} {c : Fin 7 → Nat} {af : Option Addr} {nf cf : Nat} (hpk : PkgV w1 C1 k.pkg (fun i => .slice (a i) (k.pkg.n i) (c i)) (.slice af nf cf)) (hC1 : ∀ b, C1 b → w.heap.size ≤ b ∧ b < w1.heap.size)
    (hmax : ks.length < maxLen) (hat : k.at_ < 9223372036854775808) {n : Nat} {xs : List Value} {al : Option Addr} {cl : Nat} (hn : (pkgsAt ks k.at_).length = n) (hcur : curP ks lv k.at_ = .slice al n cl) (hp : PRow w L C (.slice al n cl) (pkgsAt ks k.at_) xs) {g cap : Nat}
    (hrow : w2.ownsRow L 45 12 (.slice (some ⟨g, 0, none⟩) (n + 1) cap) (n + 1) (xs ++ pkgCells k.pkg.name k.pkg.evr k.pkg.arch k.pkg.vendor (fun i => .slice (a i) (k.pkg.n i) (c i)) (.slice af nf cf))) (hg : w1.grownBy w2 (Value.slice al n cl).ownBlock) (hgat : (Value.slice al n cl).ownBlock = some g ∨ g = w1.heap.size) :
    ∃ w3, (Instr.mapUpdate 75 (.map (some R)) (.int .i64 (k.at_ : Int)) (.slice (some ⟨g, 0, none⟩) (n + 1) cap)).run Tryz.prog w2 = .ok () w3 ∧
      GrpIn w3 L R (fun b => C b ∨ C1 b) (fun i => if i = k.at_ then .slice (some ⟨g, 0, none⟩) (n + 1) cap else lv i) (ks ++ [k]) ∧
      MMv (GB R lv ks) w (GB R (fun i => if i = k.at_ then .slice (some ⟨g, 0, none⟩) (n + 1) cap else lv i) (ks ++ [k])) w3 := by
  have hcl : ∀ b, (Value.slice al n cl).ownBlock = some b → pkgsAt ks k.at_ ≠ [] ∧ (lv k.at_).ownBlock = some b := fun b e => curP_own ks lv k.at_ (by rw [hcur]; exact e)
  have hR := h.map.lt
  have hsz : w.heap.size ≤ w2.heap.size := Nat.le_trans hb.size hg.size
  have hk : ∀ b, b < w.heap.size → (Value.slice al n cl).ownBlock ≠ some b → w2.heap[b]? = w.heap[b]? := fun b hl e => by
    rw [hg.block b (Nat.lt_of_lt_of_le hl hb.size) (fun h => e h.symm), hb.block b hl]
  have hRc : (Value.slice al n cl).ownBlock ≠ some R := fun e => by
    obtain ⟨h1, h2⟩ := hcl R e
    exact h.rR _ h1 h2
  have hgR : g ≠ R := fun e => by
    rcases hgat with h1 | h1
    · exact hRc (by rw [← e]; exact h1)
    · have := hb.size
      omega
  obtain ⟨w3, hrun, hm3, hg3, hz3⟩ := (h.map.block (hk R hR hRc)).run_store (key := .int .i64 (k.at_ : Int)) (val := .slice (some ⟨g, 0, none⟩) (n + 1) cap) keyed3 Tryz.underlying75 hmax (key3 (keyWf (by omega) (by omega))) (fun u => if u = .int .i64 (k.at_ : Int) then some (.slice (some ⟨g, 0, none⟩) (n + 1) cap) else grpF ks lv u) (if_pos rfl) (fun u hu => if_neg hu)
  have h3 : ∀ b, b < w2.heap.size → b ≠ R → w3.heap[b]? = w2.heap[b]? := fun b hl e => hg3.block b hl (fun h => e (Option.some.inj h))
  have hk3 : ∀ b, b < w.heap.size → (Value.slice al n cl).ownBlock ≠ some b → b ≠ R → w3.heap[b]? = w.heap[b]? := fun b hl e e2 => by
    rw [h3 b (Nat.lt_of_lt_of_le hl hsz) e2, hk b hl e]
  have hgl := (hrow.lt g rfl)
  have hxl := hp.row.1
  rw [hn] at hxl
  have hcon : ∀ b, C b → w3.heap[b]? = w.heap[b]? := fun b hb => by
    obtain ⟨_, h2, h4, h5⟩ := h.con b hb
    exact hk3 b h2 (fun e => by
      obtain ⟨h6, h7⟩ := hcl b e
      exact h5 _ h6 h7) h4
  have hcon1 : ∀ b, C1 b → w3.heap[b]? = w1.heap[b]? := fun b hb1 => by
    obtain ⟨h1, h2⟩ := hC1 b hb1
    rw [h3 b (Nat.lt_of_lt_of_le h2 hg.size) (by omega), hg.block b h2 (fun e => by
      obtain ⟨h6, h7⟩ := hcl b e.symm
      have := (h.lt (.inr ⟨_, h6, h7⟩)).2
      omega)]
  have hgC1 : ∀ b, C1 b → b ≠ g := fun b hb1 e => by
    obtain ⟨h1, h2⟩ := hC1 b hb1
    rcases hgat with h5 | h5
    · obtain ⟨h6, h7⟩ := hcl g h5
      have := (h.lt (.inr ⟨_, h6, h7⟩)).2
      omega
    · omega
  have hgC : ∀ b, C b → b ≠ g := fun b hbC e => by
    obtain ⟨_, h2, h4, h5⟩ := h.con b hbC
    rcases hgat with h6 | h6
    · obtain ⟨h7, h8⟩ := hcl g h6
      exact h5 _ h7 (by rw [e]; exact h8)
    · have := hb.size
      omega
  have hne : ∀ i, ¬ i = k.at_ → pkgsAt ks i ≠ [] → (lv i).ownBlock ≠ some g := fun i hi h0 e => by
    rcases hgat with h6 | h6
    · obtain ⟨h7, h8⟩ := hcl g h6
      exact hi (h.apart i _ g h0 h7 e h8)
    · have := (h.lt (.inr ⟨_, h0, e⟩)).2
      have := hb.size
      omega
  refine ⟨w3, hrun, ⟨?_, fun i hi => ?_, h.lo, fun i hi => ?_, fun i j b hi hj => ?_, fun b hb => ?_⟩, ?_⟩
  · rw [List.length_append, List.length_singleton]
    exact hm3.congr fun u => grpF_next ks lv k _ u
  · rw [pkgsAt_snoc] at hi ⊢
    by_cases e : k.at_ = i
    · subst e
      rw [if_pos rfl, if_pos rfl]
      refine ⟨xs ++ pkgCells k.pkg.name k.pkg.evr k.pkg.arch k.pkg.vendor (fun i => .slice (a i) (k.pkg.n i) (c i)) (.slice af nf cf), ?_, fun j hj => ?_⟩
      · rw [List.length_append, List.length_singleton, hn]
        exact ownsRow_to hrow fun b hb => by
          cases hb
          exact h3 g hgl.2 hgR
      · rw [List.length_append, List.length_singleton] at hj
        by_cases hj2 : j < (pkgsAt ks k.at_).length
        · obtain ⟨a2, c2, af2, nf2, cf2, h1, h2⟩ := hp.has j hj2
          rw [List.getElem_append_left hj2]
          refine ⟨a2, c2, af2, nf2, cf2, h1.keep (fun b hb => .inl hb) (fun b hb _ => hcon b hb), fun r u hr => ?_⟩
          have h4 := h2 r u hr
          rw [List.getElem?_append_left (List.getElem?_eq_some_iff.1 h4).1]
          exact h4
        · have hj3 : j = (pkgsAt ks k.at_).length := by omega
          subst hj3
          rw [List.getElem_append_right (Nat.le_refl _)]
          simp only [Nat.sub_self, List.getElem_cons_zero]
          refine ⟨a, c, af, nf, cf, hpk.keep (fun b hb => .inr hb) (fun b hb _ => hcon1 b hb), fun r u hr => ?_⟩
          rw [hn, List.getElem?_append_right (by omega)]
          have e9 : n * 12 + r - xs.length = r := by omega
          rw [e9]
          exact hr
    · rw [if_neg e] at hi ⊢
      rw [if_neg (fun x => e x.symm)]
      obtain ⟨ys, h1⟩ := h.rows i hi
      refine ⟨ys, h1.keep (fun b hb => .inl hb) (fun b hb _ => hcon b hb) (fun b hb => hk3 b (h.lt (.inr ⟨i, hi, hb⟩)).2 (fun e2 => ?_) (fun e2 => h.rR i hi (by rw [← e2]; exact hb)))⟩
      obtain ⟨h6, h7⟩ := hcl b e2
      exact e (h.apart _ _ b h6 hi h7 hb)
  · rw [pkgsAt_snoc] at hi
    by_cases e : k.at_ = i
    · subst e
      rw [if_pos rfl]
      intro e2
      cases e2
      exact hgR rfl
    · rw [if_neg e] at hi
      rw [if_neg (fun x => e x.symm)]
      exact h.rR i hi
  · rw [pkgsAt_snoc] at hi hj
    by_cases e : k.at_ = i <;> by_cases e2 : k.at_ = j
    · intro _ _
      omega
    · rw [if_neg e2] at hj
      rw [if_pos e.symm, if_neg (fun x => e2 x.symm)]
      intro h5 h6
      cases h5
      exact absurd h6 (hne j (fun x => e2 x.symm) hj)
    · rw [if_neg e] at hi
      rw [if_neg (fun x => e x.symm), if_pos e2.symm]
      intro h5 h6
      cases h6
      exact absurd h5 (hne i (fun x => e x.symm) hi)
    · rw [if_neg e] at hi
      rw [if_neg e2] at hj
      rw [if_neg (fun x => e x.symm), if_neg (fun x => e2 x.symm)]
      exact h.apart i j b hi hj
  · have hs3 : w2.heap.size ≤ w3.heap.size := hg3.size
    rcases hb with hbC | hbC
    · obtain ⟨h1, h2, h4, h5⟩ := h.con b hbC
      refine ⟨h1, by omega, h4, fun i hi => ?_⟩
      rw [pkgsAt_snoc] at hi
      by_cases e : k.at_ = i
      · rw [if_pos e.symm]
        intro e2
        cases e2
        exact hgC _ hbC rfl
      · rw [if_neg e] at hi
        rw [if_neg (fun x => e x.symm)]
        exact h5 i hi
    · obtain ⟨h1, h2⟩ := hC1 b hbC
      refine ⟨by have := h.lo; omega, by have := hg.size; omega, by omega, fun i hi => ?_⟩
      rw [pkgsAt_snoc] at hi
      by_cases e : k.at_ = i
      · rw [if_pos e.symm]
        intro e2
        cases e2
        exact hgC1 _ hbC rfl
      · rw [if_neg e] at hi
        rw [if_neg (fun x => e x.symm)]
        intro e2
        have := (h.lt (.inr ⟨i, hi, e2⟩)).2
        omega
  · refine ⟨hg3.os.trans (hg.os.trans hb.os), hg3.tape.trans (hg.tape.trans hb.tape), hg3.output.trans (hg.output.trans hb.output), by have := hg3.size; omega, fun b hl hx => ⟨hk3 b hl (fun e => ?_) (fun e => hx (.inl e)), fun hx2 => ?_⟩⟩
    · obtain ⟨h6, h7⟩ := hcl b e
      exact hx (.inr ⟨_, h6, h7⟩)
    · rcases hx2 with e | ⟨i, hi, e⟩
      · exact hx (.inl e)
      · dsimp only at e
        rw [pkgsAt_snoc] at hi
        by_cases e5 : k.at_ = i
        · rw [if_pos e5.symm] at e
          have e8 : g = b := Option.some.inj e
          rcases hgat with h5 | h5
          · obtain ⟨h6, h7⟩ := hcl g h5
            exact hx (.inr ⟨_, h6, by rw [← e8]; exact h7⟩)
          · have h10 := hb.size
            omega
        · rw [if_neg e5] at hi
          rw [if_neg (fun x => e5 x.symm)] at e
          exact hx (.inr ⟨i, hi, e⟩)
end
end Go.Proofs.YtbdankpkdhhlmaaGreat
namespace Go.Proofs.YtbdankpkdhhlmaaGreat
set_option linter.unusedVariables false
set_option linter.unusedSimpArgs false

def tokRepo (r : RepoH) (l : List PkgT) : List Tok := .txt r.name :: .num (zig r.prio) :: .num (if r.inst then 1 else 0) :: .num l.length :: l.flatMap tokPkg
def tokRepos (rs : List RepoH) (ks : List KeptT) (i : Nat) : List Tok := (List.range i).flatMap fun j => match rs[j]? with | some r => tokRepo r (pkgsAt ks j) | none => []
def tokPool (rs : List RepoH) (ks : List KeptT) : List Tok := .num rs.length :: tokRepos rs ks rs.length
theorem tokRepos_succ (rs : List RepoH) (ks : List KeptT) {i : Nat} (h : i < rs.length) : tokRepos rs ks (i + 1) = tokRepos rs ks i ++ tokRepo rs[i] (pkgsAt ks i) := by
  unfold tokRepos
  rw [List.range_succ, List.flatMap_append, List.flatMap_singleton, List.getElem?_eq_getElem h]
theorem tokRepos_le (rs : List RepoH) (ks : List KeptT) : ∀ {i j : Nat}, i ≤ j → (tokRepos rs ks i).length ≤ (tokRepos rs ks j).length := by
  intro i j h
  obtain ⟨d, rfl⟩ := Nat.exists_eq_add_of_le h
  unfold tokRepos
  rw [List.range_add, List.flatMap_append, List.length_append]
  omega
theorem tokRepos_lt (rs : List RepoH) (ks : List KeptT) {i : Nat} (h : i < rs.length) : (tokRepos rs ks i).length + 4 + ((pkgsAt ks i).flatMap tokPkg).length + 1 ≤ (tokPool rs ks).length := by
  have h1 := tokRepos_le rs ks (i := i + 1) (j := rs.length) (by omega)
  rw [tokRepos_succ rs ks h, List.length_append] at h1
  unfold tokRepo at h1
  simp only [List.length_cons] at h1
  unfold tokPool
  rw [List.length_cons]
  omega
def magicB : List UInt8 := [99, 104, 97, 110, 100, 108, 101, 114, 49]
def tabB (T : List ByteArray) : List UInt8 := T.flatMap fun s => Lib.uvarint s.size ++ s.data.toList
/-- The pool's bytes. -/
def encB (kd : Nat) (ts : List Tok) : List UInt8 := magicB ++ Lib.uvarint kd ++ Lib.uvarint (textsOf ts).length ++ tabB (textsOf ts) ++ outOf ts
theorem tabB_snoc {T : List ByteArray} {i : Nat} (h : i < T.length) : tabB (T.take (i + 1)) = tabB (T.take i) ++ (Lib.uvarint T[i].size ++ T[i].data.toList) := by
  unfold tabB
  rw [List.take_add_one, List.getElem?_eq_getElem h, Option.toList_some, List.flatMap_append, List.flatMap_singleton]
theorem tabB_le {T : List ByteArray} {i : Nat} (h : i < T.length) : (tabB (T.take i)).length + (Lib.uvarint T[i].size).length + T[i].size ≤ (tabB T).length := by
  have h1 : tabB T = tabB (T.take (i + 1)) ++ tabB (T.drop (i + 1)) := by
    unfold tabB
    rw [← List.flatMap_append, List.take_append_drop]
  rw [tabB_snoc h] at h1
  have h2 := congrArg List.length h1
  simp only [List.length_append] at h2
  have h3 : T[i].data.toList.length = T[i].size := by
    rw [Array.length_toList]
    rfl
  omega
end Go.Proofs.YtbdankpkdhhlmaaGreat
