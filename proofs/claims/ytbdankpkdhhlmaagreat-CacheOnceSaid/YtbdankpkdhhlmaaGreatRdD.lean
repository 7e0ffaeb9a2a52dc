/-
  The reader in memory; it reads a number, a text, or gives up: the contracts. Helper text; the conditions are those typed.
  The reader reads dependencies: the contracts. Helper text; the conditions are those typed.
  The reader reads a dependency: the contract. Helper text; the conditions are those typed.
  The reader reads a package: the contract. Helper text; the conditions are those typed.
-/
import Derived.Test.YtbdankpkdhhlmaaGreatCEnc
namespace Go.Proofs.YtbdankpkdhhlmaaGreat
set_option linter.unusedVariables false
set_option linter.unusedSimpArgs false
open Go.RowKit Go.Maps

/-- What reading gives up with. -/
def oddC : List PanicEntry := [{ v := .iface 63 (.agg #[]), recovered := false }]

set_option maxRecDepth 100000 in
theorem need_yes (w : World) : Calls Tryz.prog 26 #[.bool true] w fun e w' => e = .returned (.tuple #[]) ∧ w = w' := by
  go_enter Tryz.func26, Tryz.ntmps26
  go_wp2_with fail
  go_end0
  exact ⟨rfl, rfl⟩
set_option maxRecDepth 100000 in
theorem need_no (w : World) : Calls Tryz.prog 26 #[.bool false] w fun e w' => e = .panicked oddC ∧ w = w' := by
  go_enter Tryz.func26, Tryz.ntmps26
  go_wp2_with fail
  exact ⟨rfl, rfl, rfl⟩

def XR (R b : Nat) : Prop := b = R
/-- The reader at R: the bytes l are left, the texts T are known; the bytes lie below B. -/
structure RdS (w : World) (B R : Nat) (vt : Value) (l : List UInt8) (T : List ByteArray) : Prop where
  ex : ∃ ab cb, BoxN w R [.slice ab l.length cb, vt] 67 ∧ BytesAt w ab l ∧ l.length ≤ cb ∧ (∀ b off s, ab = some ⟨b, off, s⟩ → b < B) ∧ w.ownsRow B 9 1 vt T.length (T.map .string) ∧ vt.ownBlock ≠ some R
  lo : B ≤ R
  len : l.length ≤ 1073741824
  tlen : T.length ≤ 1073741824
  tsz : ∀ s ∈ T, s.size ≤ maxLen
/-- What reading leaves: what was read, or it gave up. -/
def RdPost {α : Type} (w : World) (B R : Nat) (vt : Value) (T : List ByteArray) (res : Option (α × List UInt8)) (val : α → World → Value → Prop) (e : Ending) (w' : World) : Prop :=
  match res with
  | some (x, r) => (∃ v, e = .returned v ∧ val x w' v) ∧ RdS w' B R vt r T ∧ MMv (XR R) w (XR R) w'
  | none => e = .panicked oddC ∧ MMv (XR R) w (XR R) w'
def isU (n : Nat) (_ : World) (v : Value) : Prop := v = .int .u64 (n : Int)
def isI (n : Nat) (_ : World) (v : Value) : Prop := v = .int .i64 (n : Int)
def isS (s : ByteArray) (_ : World) (v : Value) : Prop := v = .string s

section
variable {w w' : World} {B R : Nat} {vt : Value} {l : List UInt8} {T : List ByteArray}
theorem RdS.lt (h : RdS w B R vt l T) : R < w.heap.size := by
  obtain ⟨ab, cb, h1, _⟩ := h.ex
  exact h1.lt
theorem BytesAt.keep {a : Option Addr} (h : BytesAt w a l) (hk : ∀ b off s, a = some ⟨b, off, s⟩ → w'.heap[b]? = w.heap[b]?) : BytesAt w' a l := by
  rcases h with h | ⟨b, off, rfl, hc⟩
  · exact .inl h
  · exact .inr ⟨b, off, rfl, fun i hi => (World.cell?_of_block (w := w) (hk b off _ rfl)).trans (hc i hi)⟩
theorem BytesAt.lt {a : Option Addr} (h : BytesAt w a l) : l = [] ∨ ∃ b off, a = some ⟨b, off, none⟩ ∧ b < w.heap.size := by
  by_cases h0 : l = []
  · exact .inl h0
  · rcases h with h | ⟨b, off, rfl, hc⟩
    · exact .inl h
    · exact .inr ⟨b, off, rfl, World.block_lt_of_cell? w _ (hc 0 (List.length_pos_iff.2 h0))⟩
theorem RdS.keep (h : RdS w B R vt l T) (hB : B ≤ w.heap.size) (hR : w'.heap[R]? = w.heap[R]?) (hk : ∀ b, b < w.heap.size → b ≠ R → w'.heap[b]? = w.heap[b]?) : RdS w' B R vt l T := by
  obtain ⟨ab, cb, h1, h2, h3, h4, h5, h6⟩ := h.ex
  refine ⟨⟨ab, cb, h1.to hR, h2.keep fun b off s e => hk b (Nat.lt_of_lt_of_le (h4 b off s e) hB) (fun e2 => by have := h4 b off s e; have := h.lo; omega), h3, h4, ownsRow_to h5 fun g hg => hk g (h5.lt g hg).2 (fun e2 => h6 (by rw [← e2]; exact hg)), h6⟩, h.lo, h.len, h.tlen, h.tsz⟩
theorem RdS.below (h : RdS w B R vt l T) (hb : Below w.heap.size w w') : RdS w' B R vt l T :=
  h.keep (Nat.le_trans h.lo (Nat.le_of_lt h.lt)) (hb.block R h.lt) (fun b hl _ => hb.block b hl)
theorem RdS.to (h : RdS w B R vt l T) (hR : w'.heap[R]? = w.heap[R]?) (h1 : ∀ b, b < B → w'.heap[b]? = w.heap[b]?) (h2 : ∀ b, vt.ownBlock = some b → w'.heap[b]? = w.heap[b]?) : RdS w' B R vt l T := by
  obtain ⟨ab, cb, r1, r2, r3, r4, r5, r6⟩ := h.ex
  exact ⟨⟨ab, cb, r1.to hR, r2.keep fun b off s e => h1 b (r4 b off s e), r3, r4, ownsRow_to r5 h2, r6⟩, h.lo, h.len, h.tlen, h.tsz⟩
theorem RdS.vlt (h : RdS w B R vt l T) {b : Nat} (hb : vt.ownBlock = some b) : b < w.heap.size := by
  obtain ⟨ab, cb, r1, r2, r3, r4, r5, r6⟩ := h.ex
  exact (r5.lt b hb).2
theorem MMv.low {w0 w1 w2 : World} (h : MMv (XR R) w0 (XR R) w1) (k : Below w0.heap.size w1 w2) : MMv (XR R) w0 (XR R) w2 :=
  ⟨k.os.trans h.os, k.tape.trans h.tape, k.output.trans h.output, Nat.le_trans h.size k.size, fun b hb hx => ⟨(k.block b hb).trans (h.block b hb hx).1, hx⟩⟩
theorem MMv.xr {w0 w1 w2 : World} (h : MMv (XR R) w0 (XR R) w1) (k : Below w1.heap.size w1 w2) : MMv (XR R) w0 (XR R) w2 := h.trans (.of_below k)
/-- The bytes that are left are told anew. -/
theorem RdS.set (h : RdS w B R vt l T) {ab : Option Addr} {r : List UInt8} {cb : Nat} (hby : BytesAt w ab r) (hc : r.length ≤ cb) (hlt : ∀ b off s, ab = some ⟨b, off, s⟩ → b < B) (hr : r.length ≤ 1073741824) {n : Nat} (hn : r.length = n) :
    RdS (w.setCell ⟨R, 0, none⟩ (.slice ab n cb)) B R vt r T ∧ MMv (XR R) w (XR R) (w.setCell ⟨R, 0, none⟩ (.slice ab n cb)) := by
  subst hn
  obtain ⟨ab0, cb0, h1, h2, h3, h4, h5, h6⟩ := h.ex
  refine ⟨⟨⟨ab, cb, h1.set 0 _, hby.keep fun b off s e => set_other _ (fun e2 => by have := hlt b off s e; have := h.lo; omega), hc, hlt, ownsRow_to h5 fun g hg => set_other _ (fun e2 => h6 (by rw [← e2]; exact hg)), h6⟩, h.lo, hr, h.tlen, h.tsz⟩, ⟨rfl, rfl, rfl, by rw [set_size]; exact Nat.le_refl _, fun b hl hb => ⟨set_other _ hb, hb⟩⟩⟩
theorem takeB_ok : ∀ (l : List UInt8) (i acc : Nat), (takeB i acc l).2.2 = 0 → i < (takeB i acc l).2.1 ∧ (takeB i acc l).2.1 ≤ i + l.length
  | [], i, acc, h => by unfold takeB at h; cases h
  | b :: r, i, acc, h => by
    unfold takeB at h ⊢
    by_cases h1 : i = 9 ∧ 1 < b.toNat
    · rw [if_pos h1] at h
      cases h
    · rw [if_neg h1] at h ⊢
      by_cases h2 : b.toNat < 128
      · rw [if_pos h2] at h ⊢
        by_cases h3 : b.toNat = 0 ∧ 0 < i
        · rw [if_pos h3] at h
          cases h
        · rw [if_neg h3, List.length_cons]
          exact ⟨by show i < i + 1; omega, by show i + 1 ≤ _; omega⟩
      · rw [if_neg h2] at h ⊢
        have ih := takeB_ok r (i + 1) _ h
        rw [List.length_cons]
        omega
/-- A slice from a place on. -/
theorem slice_from {ab : Option Addr} (hby : BytesAt w ab l) {cb k : Nat} (hk : k ≤ l.length) (hc : l.length ≤ cb) (hlt : ∀ b off s, ab = some ⟨b, off, s⟩ → b < B) :
    ∃ a', (∀ W, (Instr.slice 23 (.slice ab l.length cb) (some (.int .i64 (k : Int))) none none).run Tryz.prog W = .ok (.slice a' (l.length - k) (cb - k)) W) ∧ BytesAt w a' (l.drop k) ∧ ∀ b off s, a' = some ⟨b, off, s⟩ → b < B := by
  refine ⟨if cb = k then ab else ab.map (·.add k), fun W => ?_, ?_, ?_⟩
  · rw [run_slice_l (P := Tryz.prog) W 23 ab l.length cb (by kernel_rfl) .i64 (k : Int) (by omega) (by omega)]
    rw [show Tryz.prog.elem 23 = 5 by kernel_rfl, Tryz.sizeOf5 W]
    simp [Result.andThen, sliced]
  · by_cases h0 : l.drop k = []
    · exact .inl h0
    · rcases hby with h | ⟨b, off, rfl, hcell⟩
      · subst h; simp at h0
      · have hkl : k < l.length := by
          rcases Nat.lt_or_ge k l.length with h | h
          · exact h
          · exact absurd (List.drop_eq_nil_of_le h) h0
        refine .inr ⟨b, off + k, ?_, fun i hi => ?_⟩
        · rw [if_neg (by omega)]
          show some ((⟨b, off, none⟩ : Addr).add k) = _
          rw [addr_add]
        · rw [List.length_drop] at hi
          rw [Nat.add_assoc, hcell (k + i) (by omega)]
          simp [List.getD, List.getElem?_drop]
  · intro b off s e
    split at e
    · exact hlt b off s e
    · cases ab with
      | none => cases e
      | some a =>
        have e2 : a.add k = ⟨b, off, s⟩ := Option.some.inj e
        have e3 : a.block = b := by
          have := congrArg Addr.block e2
          unfold Addr.add at this
          split at this <;> exact this
        exact hlt b a.off a.spot (by rw [← e3])
end

set_option maxHeartbeats 4000000 in
set_option maxRecDepth 100000 in
/-- A number. -/
theorem big_c {w : World} {B R : Nat} {vt : Value} {l : List UInt8} {T : List ByteArray} (h : RdS w B R vt l T) : Calls Tryz.prog 52 #[.pointer (some ⟨R, 0, none⟩)] w (RdPost w B R vt T (rdBig l) isU) := by
  obtain ⟨ab, cb, h1, h2, h3, h4, h5, h6⟩ := h.ex
  have hlen := h.len
  have hT := take_in h2 cb (by unfold maxLen; omega)
  have c0 := h1.cell (j := 0) rfl
  have cz := h1.frozen 0
  have hok := takeB_ok l 0 0
  by_cases he : (takeB 0 0 l).2.2 = 0
  · obtain ⟨hk1, hk2⟩ := hok he
    have hrd : rdBig l = some ((takeB 0 0 l).1, l.drop (takeB 0 0 l).2.1) := by
      unfold rdBig
      rw [if_pos he]
    rw [hrd]
    obtain ⟨n, hn⟩ : ∃ n, (takeB 0 0 l).1 = n := ⟨_, rfl⟩
    obtain ⟨k, hk⟩ : ∃ k, (takeB 0 0 l).2.1 = k := ⟨_, rfl⟩
    rw [hn, hk]
    rw [hk] at hk1 hk2
    obtain ⟨a', hsl, hby, hlt⟩ := slice_from h2 (k := k) (by omega) h3 h4
    have hdl : (l.drop k).length = l.length - k := List.length_drop
    obtain ⟨hs1, hm1⟩ := h.set hby (cb := cb - k) (by omega) hlt (by omega) hdl
    have HT : Hid (Calls Tryz.prog 74 #[.slice ab l.length cb] w fun e w' => e = .returned (.tuple #[.int .u64 (n : Int), .int .i64 (k : Int), .int .i64 0]) ∧ w = w') := Lib.hid <| hT.mono fun e w' hr => by
      obtain ⟨r1, r2⟩ := hr
      rw [hn, hk, he] at r1
      exact ⟨r1, r2⟩
    have HFIN : Hid (RdPost w B R vt T (some (n, l.drop k)) isU (.returned (.int .u64 (n : Int))) (w.setCell ⟨R, 0, none⟩ (.slice a' (l.length - k) (cb - k)))) := ⟨⟨_, rfl, rfl⟩, hs1, hm1⟩
    have hkl : (k : Int) ≤ (l.length : Int) := by omega
    generalize l.length = ln at HT HFIN hsl c0 hkl hlen
    generalize RdPost w B R vt T (some (n, l.drop k)) isU = POST at HFIN ⊢
    clear hn hk hT hok he hrd h1 h2 h3 h4 h5 h6 h hby hlt hdl hs1 hm1 hk1 hk2
    go_enter Tryz.func52, Tryz.ntmps52
    go_wp2_with fail
    refine HT.out.mono ?_
    rintro e w1 ⟨rfl, hw1⟩
    subst hw1
    go_wp2_with fail
    refine (need_yes w).mono ?_
    rintro e w1 ⟨rfl, hw1⟩
    subst hw1
    go_wp2_with fail
    exact HFIN.out
  · have hrd : rdBig l = none := by
      unfold rdBig
      rw [if_neg he]
    rw [hrd]
    obtain ⟨n, hn⟩ : ∃ n, (takeB 0 0 l).1 = n := ⟨_, rfl⟩
    obtain ⟨k, hk⟩ : ∃ k, (takeB 0 0 l).2.1 = k := ⟨_, rfl⟩
    obtain ⟨er, her⟩ : ∃ er, (takeB 0 0 l).2.2 = er := ⟨_, rfl⟩
    rw [her] at he
    have hb : (er == 0) = false := by simpa using he
    have HT : Hid (Calls Tryz.prog 74 #[.slice ab l.length cb] w fun e w' => e = .returned (.tuple #[.int .u64 (n : Int), .int .i64 (k : Int), .int .i64 er]) ∧ w = w') := Lib.hid <| hT.mono fun e w' hr => by
      obtain ⟨r1, r2⟩ := hr
      rw [hn, hk, her] at r1
      exact ⟨r1, r2⟩
    generalize l.length = ln at HT c0
    clear hn hk her hT hok he hrd h1 h2 h3 h4 h5 h6 h hlen
    go_enter Tryz.func52, Tryz.ntmps52
    go_wp2_with fail
    refine HT.out.mono ?_
    rintro e w1 ⟨rfl, hw1⟩
    subst hw1
    go_wp2_with fail
    refine (need_no w).mono ?_
    rintro e w1 ⟨rfl, hw1⟩
    subst hw1
    exact ⟨rfl, rfl, MMv.refl _ _⟩
theorem wrapI {n : Nat} (h : n ≤ 9223372036854775807) : IntKind.i64.wrap (n : Int) = (n : Int) := by
  simp only [IntKind.wrap, IntKind.bits, IntKind.signed]
  simp
  omega
set_option maxHeartbeats 4000000 in
set_option maxRecDepth 100000 in
/-- A number that counts. -/
theorem num_c {w : World} {B R : Nat} {vt : Value} {l : List UInt8} {T : List ByteArray} (h : RdS w B R vt l T) : Calls Tryz.prog 50 #[.pointer (some ⟨R, 0, none⟩)] w (RdPost w B R vt T (rdNum l) isI) := by
  have hB := big_c h
  unfold rdNum
  cases hr : rdBig l with
  | none =>
    rw [hr] at hB
    replace hB := Lib.hid hB
    clear hr h
    go_enter Tryz.func50, Tryz.ntmps50
    go_wp2_with fail
    refine hB.out.mono ?_
    rintro e w1 ⟨rfl, hm⟩
    exact ⟨rfl, rfl, hm⟩
  | some x =>
    obtain ⟨n, r⟩ := x
    rw [hr] at hB
    replace hB := Lib.hid hB
    clear hr h
    simp only
    by_cases hn : n ≤ r.length
    · rw [if_pos hn]
      have hnb : (decide ((n : Int) ≤ (r.length : Int))) = true := decide_eq_true (by omega)
      obtain ⟨POST, hPOST⟩ : ∃ POST, RdPost w B R vt T (some (n, r)) isI = POST := ⟨_, rfl⟩
      rw [hPOST]
      replace hPOST := Lib.hid hPOST
      go_enter Tryz.func50, Tryz.ntmps50
      go_wp2_with fail
      refine hB.out.mono ?_
      rintro e w1 ⟨⟨v, rfl, hv⟩, hs, hm⟩
      have hv' : v = .int .u64 (n : Int) := hv
      subst hv'
      obtain ⟨ab, cb, h1, _⟩ := id hs.ex
      have c0 := h1.cell (j := 0) rfl
      have hrl := hs.len
      have hw1 : IntKind.u64.wrap (r.length : Int) = (r.length : Int) := wraps_u64 _ (by omega) (by omega)
      have hw2 := wrapI (n := n) (by omega)
      have HFIN : Hid (POST (.returned (.int .i64 (n : Int))) w1) := by
        rw [← hPOST.out]
        exact ⟨⟨_, rfl, rfl⟩, hs, hm⟩
      generalize r.length = rl at c0 hw1 hnb hn hrl
      clear hs hm h1 hv
      go_wp2_with fail
      refine (need_yes w1).mono ?_
      rintro e w2 ⟨rfl, hw⟩
      subst hw
      go_wp2_with fail
      exact HFIN.out
    · rw [if_neg hn]
      have hnb : (decide ((n : Int) ≤ (r.length : Int))) = false := decide_eq_false (by omega)
      obtain ⟨POST, hPOST⟩ : ∃ POST, RdPost w B R vt T (none : Option (Nat × List UInt8)) isI = POST := ⟨_, rfl⟩
      rw [hPOST]
      replace hPOST := Lib.hid hPOST
      go_enter Tryz.func50, Tryz.ntmps50
      go_wp2_with fail
      refine hB.out.mono ?_
      rintro e w1 ⟨⟨v, rfl, hv⟩, hs, hm⟩
      have hv' : v = .int .u64 (n : Int) := hv
      subst hv'
      obtain ⟨ab, cb, h1, _⟩ := id hs.ex
      have c0 := h1.cell (j := 0) rfl
      have hrl := hs.len
      have hw1 : IntKind.u64.wrap (r.length : Int) = (r.length : Int) := wraps_u64 _ (by omega) (by omega)
      have HFIN : Hid (POST (.panicked oddC) w1) := by
        rw [← hPOST.out]
        exact ⟨rfl, hm⟩
      generalize r.length = rl at c0 hw1 hnb hn hrl
      clear hs hm h1 hv
      go_wp2_with fail
      refine (need_no w1).mono ?_
      rintro e w2 ⟨rfl, hw⟩
      subst hw
      exact ⟨rfl, HFIN.out⟩
set_option maxHeartbeats 4000000 in
set_option maxRecDepth 100000 in
/-- A number up to some. -/
theorem small_c {w : World} {B R : Nat} {vt : Value} {l : List UInt8} {T : List ByteArray} (h : RdS w B R vt l T) (m : Nat) (hm64 : m ≤ 9223372036854775807) : Calls Tryz.prog 49 #[.pointer (some ⟨R, 0, none⟩), .int .i64 (m : Int)] w (RdPost w B R vt T (rdSmall m l) isI) := by
  have hB := big_c h
  have hw1 : IntKind.u64.wrap (m : Int) = (m : Int) := wraps_u64 _ (by omega) (by omega)
  unfold rdSmall
  cases hr : rdBig l with
  | none =>
    rw [hr] at hB
    replace hB := Lib.hid hB
    clear hr h
    go_enter Tryz.func49, Tryz.ntmps49
    go_wp2_with fail
    refine hB.out.mono ?_
    rintro e w1 ⟨rfl, hm⟩
    exact ⟨rfl, rfl, hm⟩
  | some x =>
    obtain ⟨n, r⟩ := x
    rw [hr] at hB
    replace hB := Lib.hid hB
    clear hr h
    simp only
    by_cases hn : n ≤ m
    · rw [if_pos hn]
      have hnb : (decide ((n : Int) ≤ (m : Int))) = true := decide_eq_true (by omega)
      obtain ⟨POST, hPOST⟩ : ∃ POST, RdPost w B R vt T (some (n, r)) isI = POST := ⟨_, rfl⟩
      rw [hPOST]
      replace hPOST := Lib.hid hPOST
      have hw2 := wrapI (n := n) (by omega)
      go_enter Tryz.func49, Tryz.ntmps49
      go_wp2_with fail
      refine hB.out.mono ?_
      rintro e w1 ⟨⟨v, rfl, hv⟩, hs, hm⟩
      have hv' : v = .int .u64 (n : Int) := hv
      subst hv'
      have HFIN : Hid (POST (.returned (.int .i64 (n : Int))) w1) := by
        rw [← hPOST.out]
        exact ⟨⟨_, rfl, rfl⟩, hs, hm⟩
      clear hs hm hv
      go_wp2_with fail
      refine (need_yes w1).mono ?_
      rintro e w2 ⟨rfl, hw⟩
      subst hw
      go_wp2_with fail
      exact HFIN.out
    · rw [if_neg hn]
      have hnb : (decide ((n : Int) ≤ (m : Int))) = false := decide_eq_false (by omega)
      obtain ⟨POST, hPOST⟩ : ∃ POST, RdPost w B R vt T (none : Option (Nat × List UInt8)) isI = POST := ⟨_, rfl⟩
      rw [hPOST]
      replace hPOST := Lib.hid hPOST
      go_enter Tryz.func49, Tryz.ntmps49
      go_wp2_with fail
      refine hB.out.mono ?_
      rintro e w1 ⟨⟨v, rfl, hv⟩, hs, hm⟩
      have hv' : v = .int .u64 (n : Int) := hv
      subst hv'
      have HFIN : Hid (POST (.panicked oddC) w1) := by
        rw [← hPOST.out]
        exact ⟨rfl, hm⟩
      clear hs hm hv
      go_wp2_with fail
      refine (need_no w1).mono ?_
      rintro e w2 ⟨rfl, hw⟩
      subst hw
      exact ⟨rfl, HFIN.out⟩
set_option maxHeartbeats 4000000 in
set_option maxRecDepth 100000 in
/-- A text, by its number. -/
theorem text_rd {w : World} {B R : Nat} {vt : Value} {l : List UInt8} {T : List ByteArray} (h : RdS w B R vt l T) : Calls Tryz.prog 51 #[.pointer (some ⟨R, 0, none⟩)] w (RdPost w B R vt T (rdText T l) isS) := by
  have hB := big_c h
  have htl := h.tlen
  have hw1 : IntKind.u64.wrap (T.length : Int) = (T.length : Int) := wraps_u64 _ (by omega) (by omega)
  unfold rdText
  cases hr : rdBig l with
  | none =>
    rw [hr] at hB
    replace hB := Lib.hid hB
    clear hr h
    go_enter Tryz.func51, Tryz.ntmps51
    go_wp2_with fail
    refine hB.out.mono ?_
    rintro e w1 ⟨rfl, hm⟩
    exact ⟨rfl, rfl, hm⟩
  | some x =>
    obtain ⟨n, r⟩ := x
    rw [hr] at hB
    replace hB := Lib.hid hB
    clear hr h
    simp only
    by_cases hn : n < T.length
    · rw [dif_pos hn]
      have hnb : (decide ((n : Int) < (T.length : Int))) = true := decide_eq_true (by omega)
      obtain ⟨POST, hPOST⟩ : ∃ POST, RdPost w B R vt T (some (T[n], r)) isS = POST := ⟨_, rfl⟩
      rw [hPOST]
      replace hPOST := Lib.hid hPOST
      go_enter Tryz.func51, Tryz.ntmps51
      go_wp2_with fail
      refine hB.out.mono ?_
      rintro e w1 ⟨⟨v, rfl, hv⟩, hs, hm⟩
      have hv' : v = .int .u64 (n : Int) := hv
      subst hv'
      obtain ⟨ab, cb, h1, _, _, _, h5, _⟩ := id hs.ex
      obtain ⟨g, ct, rfl⟩ : ∃ g ct, vt = .slice (some ⟨g, 0, none⟩) T.length ct := by
        rcases ownsRow_form h5 with ⟨e, h0⟩ | ⟨g, c, e, _⟩
        · omega
        · exact ⟨g, c, e⟩
      have c1 := h1.cell (j := 1) rfl
      have q : w1.cell? ⟨g, n * 1 + 0, none⟩ = some (.string T[n]) := ownsRow_cell h5 (by simp [hn])
      rw [Nat.mul_one, Nat.add_zero] at q
      have HFIN : Hid (POST (.returned (.string T[n])) w1) := by
        rw [← hPOST.out]
        exact ⟨⟨_, rfl, rfl⟩, hs, hm⟩
      generalize T[n] = s at q HFIN
      clear hPOST
      generalize T.length = tl at c1 hw1 hnb hn htl
      have hnn : (n : Int) < (tl : Int) := by omega
      clear hs hm h1 hv h5
      go_wp2_with fail
      refine (need_yes w1).mono ?_
      rintro e w2 ⟨rfl, hw⟩
      subst hw
      go_wp2_with fail
      exact HFIN.out
    · rw [dif_neg hn]
      have hnb : (decide ((n : Int) < (T.length : Int))) = false := decide_eq_false (by omega)
      obtain ⟨POST, hPOST⟩ : ∃ POST, RdPost w B R vt T (none : Option (ByteArray × List UInt8)) isS = POST := ⟨_, rfl⟩
      rw [hPOST]
      replace hPOST := Lib.hid hPOST
      go_enter Tryz.func51, Tryz.ntmps51
      go_wp2_with fail
      refine hB.out.mono ?_
      rintro e w1 ⟨⟨v, rfl, hv⟩, hs, hm⟩
      have hv' : v = .int .u64 (n : Int) := hv
      subst hv'
      obtain ⟨ab, cb, h1, _, _, _, h5, _⟩ := id hs.ex
      obtain ⟨at_, ct, rfl⟩ := ownsRow_slice h5
      have c1 := h1.cell (j := 1) rfl
      have HFIN : Hid (POST (.panicked oddC) w1) := by
        rw [← hPOST.out]
        exact ⟨rfl, hm⟩
      generalize T.length = tl at c1 hw1 hnb hn htl
      clear hs hm h1 hv h5
      go_wp2_with fail
      refine (need_no w1).mono ?_
      rintro e w2 ⟨rfl, hw⟩
      subst hw
      exact ⟨rfl, HFIN.out⟩
end Go.Proofs.YtbdankpkdhhlmaaGreat
namespace Go.Proofs.YtbdankpkdhhlmaaGreat
set_option linter.unusedVariables false
set_option linter.unusedSimpArgs false
open Go.RowKit Go.Maps

theorem rdSmall_le {m n : Nat} {l r : List UInt8} (h : rdSmall m l = some (n, r)) : n ≤ m := by
  unfold rdSmall at h
  split at h
  · cases h
  · split at h
    · rename_i h1
      cases h
      exact h1
    · cases h
/-- What is there already, ahead of what comes. -/
def cmb {α : Type} (ys : List α) (o : Option (List α × List UInt8)) : Option (List α × List UInt8) := o.map fun p => (ys ++ p.1, p.2)
section
variable {α : Type} {f : List UInt8 → Option (α × List UInt8)} {ys : List α} {k : Nat} {q r : List UInt8} {y : α}
theorem cmb_nil (o : Option (List α × List UInt8)) : cmb [] o = o := by
  cases o with
  | none => rfl
  | some p => rfl
theorem cmb_step (h : f q = some (y, r)) : cmb ys (rdMany f (k + 1) q) = cmb (ys ++ [y]) (rdMany f k r) := by
  rw [rdMany, h]
  simp only
  cases rdMany f k r with
  | none => rfl
  | some p => simp [cmb]
theorem cmb_stop (h : f q = none) : cmb ys (rdMany f (k + 1) q) = none := by
  rw [rdMany, h]
  rfl
theorem cmb_end : cmb ys (rdMany f 0 q) = some (ys, q) := by simp [cmb, rdMany]
end

/-- One more, where the reader alone has turned. -/
theorem DepRow.step2 {w wa w9 : World} {L : Nat} {vo : Value} {i n : Nat} {args args' : Fin n → DepT} {xs cs : List Value} (h : DepRow w L vo i n args xs) (hL : L ≤ w.heap.size) (hsz : w.heap.size ≤ wa.heap.size) (hbk : ∀ b, L ≤ b → b < w.heap.size → wa.heap[b]? = w.heap[b]?) (hi : i < n) (hv : DepC wa (New w.heap.size wa) (args' ⟨i, hi⟩) cs) (hag : ∀ j : Fin n, j.val < i → args' j = args j) {g cap : Nat}
    (hown : w9.ownsRow L 52 5 (.slice (some ⟨g, 0, none⟩) (i + 1) cap) (i + 1) (xs ++ cs)) (hgrow : wa.grownBy w9 vo.ownBlock) (hat : vo.ownBlock = some g ∨ g = wa.heap.size) : DepRow w9 L (.slice (some ⟨g, 0, none⟩) (i + 1) cap) (i + 1) n args' (xs ++ cs) := by
  have hxl : xs.length = i * 5 := h.row.1
  refine ⟨hown, fun j hj => ?_⟩
  have hgb : ∀ b, (Value.slice (some ⟨g, 0, none⟩) (i + 1) cap).ownBlock ≠ some b ↔ b ≠ g := fun b => by
    show some g ≠ some b ↔ b ≠ g
    constructor
    · intro h e; exact h (by rw [e])
    · intro h e; exact h (Option.some.inj e).symm
  by_cases e : j.val = i
  · obtain rfl : j = ⟨i, hi⟩ := Fin.ext e
    have hne : ∀ b, New w.heap.size wa b → vo.ownBlock ≠ some b ∧ b ≠ g := fun b hb' => by
      refine ⟨fun e => ?_, fun e => ?_⟩
      · have := (h.row.lt b e).2
        have := hb'.1
        omega
      · subst e
        rcases hat with h1 | h1
        · have := (h.row.lt b h1).2
          have := hb'.1
          omega
        · have := hb'.2.lt
          omega
    refine ⟨cs, hv.keep (fun b hb' => ⟨⟨by have := hb'.1; omega, hb'.2.keep (hgrow.block b hb'.2.lt (fun e => (hne b hb').1 e.symm))⟩, (hgb b).2 (hne b hb').2⟩) (fun b hb' hl => hgrow.block b hl (fun e => (hne b hb').1 e.symm)) (fun _ _ => trivial), fun r u hr => ?_⟩
    rw [List.getElem?_append_right (by simp only; omega), hxl]
    simp only
    rw [show i * 5 + r - i * 5 = r by omega]
    exact hr
  · obtain ⟨c2, h1, h2⟩ := h.has j (by omega)
    have hk : ∀ b, New L w b ∧ vo.ownBlock ≠ some b → w9.heap[b]? = w.heap[b]? := fun b hb' =>
      (hgrow.block b (Nat.lt_of_lt_of_le hb'.1.2.lt hsz) (fun e => hb'.2 e.symm)).trans (hbk b hb'.1.1 hb'.1.2.lt)
    have hng : ∀ b, New L w b ∧ vo.ownBlock ≠ some b → b ≠ g := fun b hb' e => by
      subst e
      rcases hat with h1 | h1
      · exact hb'.2 h1
      · have := hb'.1.2.lt
        omega
    rw [hag j (by omega)]
    refine ⟨c2, h1.keep (fun b hb' => ⟨⟨hb'.1.1, hb'.1.2.keep (hk b hb')⟩, (hgb b).2 (hng b hb')⟩) (fun b hb' _ => hk b hb') (fun _ _ => trivial), fun r u hr => ?_⟩
    have hr5 : r < 5 := by
      have := (List.getElem?_eq_some_iff.1 hr).1
      rwa [h1.len] at this
    rw [List.getElem?_append_left (by omega)]
    exact h2 r u hr

def d0 : DepT := .mk 0 ⟨#[]⟩ 0 ⟨#[]⟩ 0 (fun i => i.elim0)
def isDep (L : Nat) (d : DepT) (w : World) (v : Value) : Prop := ∃ cs, v = .agg cs.toArray ∧ DepC w (New L w) d cs
def isDeps (L : Nat) (xs : List DepT) (w : World) (v : Value) : Prop := DepsV w (New L w) xs.length (fun i => xs[i]) v
def DepRd (T : List ByteArray) (deep : Nat) : Prop := ∀ (w : World) (B R : Nat) (vt : Value) (l : List UInt8), RdS w B R vt l T → Calls Tryz.prog 101 #[.pointer (some ⟨R, 0, none⟩), .int .i64 (deep : Int)] w (RdPost w B R vt T (rdDep T deep l) (isDep w.heap.size))
theorem info52d : (Tryz.prog.info? 52).map (fun i => (i.zero, i.size, i.bytes)) = some (some (.agg #[.int .i64 0, .string ⟨#[]⟩, .int .i64 0, .string ⟨#[]⟩, .slice none 0 0]), 5, 72) := by kernel_rfl

set_option maxHeartbeats 8000000 in
set_option maxRecDepth 100000 in
theorem rdeps_of {T : List ByteArray} {deep : Nat} (H : DepRd T deep) (w : World) (B R : Nat) (vt : Value) (l : List UInt8) (h : RdS w B R vt l T) :
    Calls Tryz.prog 75 #[.pointer (some ⟨R, 0, none⟩), .int .i64 (deep : Int)] w (RdPost w B R vt T (rdDeps T deep l) (isDeps w.heap.size)) := by
  have hN := small_c h 16 (by decide)
  have hRlt := h.lt
  have hBs := Nat.le_trans h.lo (Nat.le_of_lt h.lt)
  have HVL : Hid (∀ b, vt.ownBlock = some b → b < w.heap.size) := Lib.hid fun b hb => h.vlt hb
  unfold rdDeps
  cases hr : rdSmall 16 l with
  | none =>
    rw [hr] at hN
    replace hN := Lib.hid hN
    clear hr h
    go_enter Tryz.func75, Tryz.ntmps75
    go_wp2_with fail
    refine hN.out.mono ?_
    rintro e w1 ⟨rfl, hm⟩
    exact ⟨rfl, rfl, hm⟩
  | some x =>
    obtain ⟨n, r⟩ := x
    have hn16 := rdSmall_le hr
    rw [hr] at hN
    replace hN := Lib.hid hN
    simp only
    obtain ⟨TOT, hTOT⟩ : ∃ TOT, rdMany (rdDep T deep) n r = TOT := ⟨_, rfl⟩
    rw [hTOT]
    obtain ⟨POST, hPOST⟩ : ∃ POST, RdPost w B R vt T TOT (isDeps w.heap.size) = POST := ⟨_, rfl⟩
    rw [hPOST]
    have HNO : Hid (TOT = none → ∀ w', MMv (XR R) w (XR R) w' → POST (.panicked oddC) w') := Lib.hid fun h0 w' hm => by
      rw [← hPOST, h0]
      exact ⟨rfl, hm⟩
    have HYES : Hid (∀ ys q w' vo xs, TOT = some (ys, q) → RdS w' B R vt q T → MMv (XR R) w (XR R) w' → ys.length = n → DepRow w' w.heap.size vo n n (fun j => ys.getD j.val d0) xs → POST (.returned vo) w') := Lib.hid fun ys q w' vo xs h0 h1 h2 h3 h4 => by
      rw [← hPOST, h0]
      refine ⟨⟨vo, rfl, ?_⟩, h1, h2⟩
      subst h3
      have h5 := (h4.deps (by omega)).2
      have e : (fun j : Fin ys.length => ys.getD j.val d0) = fun i => ys[i] := funext fun j => by
        rw [List.getD_eq_getElem?_getD, List.getElem?_eq_getElem j.isLt]
        rfl
      rw [e] at h5
      exact h5
    have HTOT := Lib.hid hTOT
    have HH := Lib.hid H
    obtain ⟨i0, hi, hz0, hz1, hz2⟩ := info_parts info52d
    obtain ⟨L, hL⟩ : ∃ L, w.heap.size = L := ⟨_, rfl⟩
    rw [hL] at HYES
    have HL := Lib.hid hL
    clear hr h hPOST hTOT H hL
    go_enter Tryz.func75, Tryz.ntmps75
    go_wp2_with fail
    refine hN.out.mono ?_
    rintro e w1 ⟨⟨v, rfl, hv⟩, hs, hm⟩
    have hv' : v = .int .i64 (n : Int) := hv
    subst hv'
    have H1 : Hid (RdS w1 B R vt r T ∧ MMv (XR R) w (XR R) w1) := ⟨hs, hm⟩
    clear hs hm hv hN
    go_wp2_with fail
    go_loopw [5, 8] (fun vo vi wr => ∃ (i : Nat) (ao : Option Addr) (co : Nat), vi = .int .i64 i ∧ i ≤ n ∧ vo = .slice ao i co ∧ Hid (∃ ys q xs, ys.length = i ∧ TOT = cmb ys (rdMany (rdDep T deep) (n - i) q) ∧ RdS wr B R vt q T ∧ MMv (XR R) w (XR R) wr ∧ DepRow wr L (.slice ao i co) i n (fun j => ys.getD j.val d0) xs)) (fun _ vi _ => n - (intOf vi).toNat)
    case atStart =>
      refine ⟨0, none, 0, rfl, Nat.zero_le _, rfl, [], r, [], rfl, ?_, H1.out.1, H1.out.2, DepRow.nil _ _ _ _⟩
      rw [cmb_nil]
      exact HTOT.out.symm
    case round =>
      clear H1
      obtain ⟨i, ao, co, rfl, hin, rfl, HT⟩ := hrel
      obtain ⟨ys, q, xs, hyl, htot, hs, hm, hrow⟩ := HT.out
      by_cases hlt : i < n
      · have hi1 : (i : Int) < (n : Int) := by omega
        have hC := HH.out wr B R vt q hs
        obtain ⟨k, hk⟩ : ∃ k, n - i = k + 1 := ⟨n - i - 1, by omega⟩
        rw [hk] at htot
        have hsl : L ≤ wr.heap.size := by rw [← HL.out]; exact hm.size
        have hRL : R < L := by rw [← HL.out]; exact hRlt
        cases hq : rdDep T deep q with
        | none =>
          rw [hq] at hC
          rw [cmb_stop hq] at htot
          have HM := Lib.hid hm
          have HZ := Lib.hid htot
          replace hC := Lib.hid hC
          clear htot hs hm hrow HT hq hk hyl
          go_wp2_with fail
          refine hC.out.mono ?_
          rintro e w2 ⟨rfl, hm2⟩
          exact ⟨rfl, HNO.out HZ.out w2 (HM.out.trans hm2)⟩
        | some y =>
          obtain ⟨y, q2⟩ := y
          rw [hq] at hC
          rw [cmb_step hq] at htot
          have HM := Lib.hid hm
          have HTT := Lib.hid htot
          have HROW := Lib.hid hrow
          have HYL := Lib.hid hyl
          have HK := Lib.hid hk
          replace hC := Lib.hid hC
          clear htot hs hm hrow HT hq hyl hk
          go_wp2_with fail
          refine hC.out.mono ?_
          rintro e w2 ⟨⟨v2, rfl, cs, hv2, hd⟩, hs2, hm2⟩
          subst hv2
          obtain ⟨k', nm', op', ev', a', n', c', rfl⟩ := hd.shape
          have HD := Lib.hid hd
          have HS2 := Lib.hid hs2
          have HM2 := Lib.hid hm2
          obtain ⟨w3, e3⟩ : ∃ w3, w2.alloc (.cells #[.int .i64 k', .string nm', .int .i64 op', .string ev', .slice a' n' c'] 52) = w3 := ⟨_, rfl⟩
          have HB3 : Hid (Below w2.heap.size w2 w3 ∧ w3.heap[w2.heap.size]? = some (.cells #[.int .i64 k', .string nm', .int .i64 op', .string ev', .slice a' n' c'] 52 (0, 0))) := by
            rw [← e3]
            exact ⟨below1 _ _, heap_alloc_new w2 _⟩
          have HBK : Hid (∀ b, L ≤ b → b < wr.heap.size → w3.heap[b]? = wr.heap[b]?) := Lib.hid fun b h1 h2 => by
            rw [HB3.out.1.block b (Nat.lt_of_lt_of_le h2 hm2.size)]
            exact (hm2.block b h2 (fun e => by
              have e2 : b = R := e
              omega)).1
          have hrow3 : w3.ownsRow L 52 5 (.slice ao i co) i xs := ownsRow_to HROW.out.row fun g hg => HBK.out g (HROW.out.row.lt g hg).1 (HROW.out.row.lt g hg).2
          have HR3 := Lib.hid hrow3
          have hL3 : L ≤ w3.heap.size := Nat.le_trans hsl (Nat.le_trans hm2.size HB3.out.1.size)
          have HNX : Hid (∀ g cap w4, w4.ownsRow L 52 5 (.slice (some ⟨g, 0, none⟩) (i + 1) cap) (i + 1) (xs ++ [.int .i64 k', .string nm', .int .i64 op', .string ev', .slice a' n' c']) → w3.grownBy w4 (Value.slice ao i co).ownBlock → ((Value.slice ao i co).ownBlock = some g ∨ g = w3.heap.size) →
              ∃ ys q xs, ys.length = i + 1 ∧ TOT = cmb ys (rdMany (rdDep T deep) (n - (i + 1)) q) ∧ RdS w4 B R vt q T ∧ MMv (XR R) w (XR R) w4 ∧ DepRow w4 L (.slice (some ⟨g, 0, none⟩) (i + 1) cap) (i + 1) n (fun j => ys.getD j.val d0) xs) := Lib.hid fun g cap w4 h1 h2 h3 => by
            have hb4 : Below L w3 w4 := ⟨h2.os, h2.tape, h2.output, h2.size, fun b hb => h2.block b (by omega) (fun e => by have := (hrow3.lt b e.symm).1; omega)⟩
            have hVL : ∀ b, vt.ownBlock = some b → b < L := fun b hb => by rw [← HL.out]; exact HVL.out b hb
            have hBL : B ≤ L := by rw [← HL.out]; exact hBs
            have hs4 : RdS w4 B R vt q2 T := (HS2.out.below HB3.out.1).to (hb4.block R hRL) (fun b hb => hb4.block b (by omega)) (fun b hb => hb4.block b (hVL b hb))
            have hm4 : MMv (XR R) w (XR R) w4 := (HM.out.trans HM2.out).low (by
              rw [HL.out]
              have h5 : Below L w2 w3 := HB3.out.1.mono (Nat.le_trans hsl hm2.size)
              exact h5.trans hb4)
            refine ⟨ys ++ [y], q2, _, by rw [List.length_append, List.length_singleton, HYL.out], ?_, hs4, hm4, HROW.out.step2 hsl (Nat.le_trans hm2.size HB3.out.1.size) HBK.out hlt ?_ ?_ h1 h2 h3⟩
            · rw [HTT.out]
              have : n - (i + 1) = k := by have := HK.out; omega
              rw [this]
            · have e5 : (ys ++ [y]).getD i d0 = y := by
                rw [← HYL.out]
                simp [List.getD]
              show DepC w3 _ ((ys ++ [y]).getD i d0) _
              rw [e5]
              exact HD.out.new HB3.out.1
            · intro j hj
              have : j.val < ys.length := by rw [HYL.out]; exact hj
              simp [List.getD, List.getElem?_append_left this]
          clear hd hs2 hm2 hrow3
          go_wp2_with (at_builtin; refine wpList_append_lies _ rfl (.tmp 10) (.tmp 14) 42 rfl L 52 i0 _ 5 72 Tryz.underlying42 hi hz0 hz1 hz2 rfl (by decide) (.slice ao i co) i xs rfl HR3.out ⟨w2.heap.size, 0, none⟩ 1 1 [.int .i64 k', .string nm', .int .i64 op', .string ev', .slice a' n' c'] rfl rfl (World.news_of_block (cs := #[.int .i64 k', .string nm', .int .i64 op', .string ev', .slice a' n' c']) (t := 52) (fr := (0, 0)) HB3.out.2) (by intro u hu; simp only [List.mem_cons, List.not_mem_nil, or_false] at hu; rcases hu with rfl | rfl | rfl | rfl | rfl <;> rfl) (by decide) (by unfold maxLen; omega) (by omega) hL3 w3.heap.size rfl ?_; intro g4 c4 w4 hown4 hgrow4 hat4 hlt4; have H4 := Lib.hid (HNX.out g4 c4 w4 hown4 hgrow4 hat4); clear hown4 hgrow4 hat4 hlt4)
          go_roundw
          case rel => exact ⟨i + 1, _, _, by go_num, by omega, rfl, H4.out⟩
          case measure => simp [intOf]; omega
      · have hi1 : ¬ (i : Int) < (n : Int) := by omega
        have he : i = n := by omega
        have hfin : Hid (POST (.returned (.slice ao i co)) wr) := by
          rw [he, Nat.sub_self, cmb_end] at htot
          rw [he] at hrow ⊢
          exact HYES.out ys q wr _ xs htot hs hm (by omega) hrow
        clear htot hs hm hrow HT he hyl
        go_wp2_with fail
        exact hfin.out
end Go.Proofs.YtbdankpkdhhlmaaGreat
namespace Go.Proofs.YtbdankpkdhhlmaaGreat
set_option linter.unusedVariables false
set_option linter.unusedSimpArgs false
open Go.RowKit Go.Maps

theorem rdText_mem {T : List ByteArray} {l r : List UInt8} {s : ByteArray} (h : rdText T l = some (s, r)) : s ∈ T := by
  unfold rdText at h
  split at h
  · cases h
  · split at h
    · cases h
      exact List.getElem_mem _
    · cases h
theorem RdS.low {w w' : World} {B R L : Nat} {vt : Value} {l : List UInt8} {T : List ByteArray} (h : RdS w B R vt l T) (hR : R < L) (hV : ∀ b, vt.ownBlock = some b → b < L) (hb : Below L w w') : RdS w' B R vt l T :=
  h.to (hb.block R hR) (fun b hx => hb.block b (by have := h.lo; omega)) (fun b hx => hb.block b (hV b hx))
/-- What is known on the way: the reader; two blocks of the call's own. -/
structure RdAt (w0 w : World) (B R : Nat) (vt : Value) (l : List UInt8) (T : List ByteArray) (Z D : Nat) (zs cs : List Value) (ty : TypeId) : Prop where
  rd : RdS w B R vt l T
  mv : MMv (XR R) w0 (XR R) w
  z : BoxN w Z zs ty
  d : BoxN w D cs ty
  lz : w0.heap.size ≤ Z
  ld : w0.heap.size ≤ D
  ne : Z ≠ D
  rl : R < w0.heap.size
  vl : ∀ b, vt.ownBlock = some b → b < w0.heap.size
section
variable {w0 w w' : World} {B R : Nat} {vt : Value} {l r : List UInt8} {T : List ByteArray} {Z D : Nat} {zs cs : List Value} {ty : TypeId}
theorem RdAt.call (h : RdAt w0 w B R vt l T Z D zs cs ty) (hr : RdS w' B R vt r T) (hm : MMv (XR R) w (XR R) w') : RdAt w0 w' B R vt r T Z D zs cs ty := by
  have hne : ∀ b, w0.heap.size ≤ b → ¬ XR R b := fun b hb e => by
    have e2 : b = R := e
    have := h.rl
    omega
  exact ⟨hr, h.mv.trans hm, h.z.to (hm.block Z h.z.lt (hne Z h.lz)).1, h.d.to (hm.block D h.d.lt (hne D h.ld)).1, h.lz, h.ld, h.ne, h.rl, h.vl⟩
theorem RdAt.below (h : RdAt w0 w B R vt l T Z D zs cs ty) (hb : Below w.heap.size w w') : RdAt w0 w' B R vt l T Z D zs cs ty :=
  ⟨h.rd.below hb, h.mv.xr hb, h.z.below hb, h.d.below hb, h.lz, h.ld, h.ne, h.rl, h.vl⟩
theorem RdAt.setD (h : RdAt w0 w B R vt l T Z D zs cs ty) (j : Nat) (v : Value) : RdAt w0 (w.setCell ⟨D, j, none⟩ v) B R vt l T Z D zs (cs.set j v) ty := by
  have hb : Below w0.heap.size w (w.setCell ⟨D, j, none⟩ v) := below_sc (Below.refl _ _) h.ld _ _
  exact ⟨h.rd.low h.rl h.vl hb, h.mv.low hb, h.z.to (set_other v h.ne), h.d.set j v, h.lz, h.ld, h.ne, h.rl, h.vl⟩
theorem RdAt.setZ (h : RdAt w0 w B R vt l T Z D zs cs ty) (j : Nat) (v : Value) : RdAt w0 (w.setCell ⟨Z, j, none⟩ v) B R vt l T Z D (zs.set j v) cs ty := by
  have hb : Below w0.heap.size w (w.setCell ⟨Z, j, none⟩ v) := below_sc (Below.refl _ _) h.lz _ _
  exact ⟨h.rd.low h.rl h.vl hb, h.mv.low hb, h.z.set j v, h.d.to (set_other v (fun e => h.ne e.symm)), h.lz, h.ld, h.ne, h.rl, h.vl⟩
theorem RdAt.fill5 {x0 x1 x2 x3 x4 z0 z1 z2 z3 z4 : Value} (h : RdAt w0 w B R vt l T Z D [z0, z1, z2, z3, z4] cs ty) : RdAt w0 (((((w.setCell ⟨Z, 0, none⟩ x0).setCell ⟨Z, 1, none⟩ x1).setCell ⟨Z, 2, none⟩ x2).setCell ⟨Z, 3, none⟩ x3).setCell ⟨Z, 4, none⟩ x4) B R vt l T Z D [x0, x1, x2, x3, x4] cs ty :=
  ((((h.setZ 0 x0).setZ 1 x1).setZ 2 x2).setZ 3 x3).setZ 4 x4
/-- The start. -/
theorem RdAt.start (h : RdS w B R vt l T) (zs cs : List Value) (ty : TypeId) {w1 : World} (hr : RdS w1 B R vt r T) (hm : MMv (XR R) (w.alloc (.cells zs.toArray ty)) (XR R) w1) : RdAt w (w1.alloc (.cells cs.toArray ty)) B R vt r T w.heap.size w1.heap.size zs cs ty := by
  have hz := boxN_alloc w zs ty
  have hlt := hz.lt
  have hR := h.lt
  have hz1 : BoxN w1 w.heap.size zs ty := hz.to (hm.block _ hlt (fun e => by
    have e2 : w.heap.size = R := e
    omega)).1
  exact ⟨hr.below (below1 _ _), ((MMv.of_below (below1 _ _)).trans hm).xr (below1 _ _), hz1.below (below1 _ _), boxN_alloc w1 cs ty, Nat.le_refl _, Nat.le_trans (below1 w (.cells zs.toArray ty)).size hm.size, by have := hz1.lt; omega, hR, fun b hb => h.vlt hb⟩
end

set_option maxHeartbeats 8000000 in
set_option maxRecDepth 100000 in
theorem rdep_zero (T : List ByteArray) : DepRd T 0 := by
  intro w B R vt l h
  have hB := small_c (h.below (below1 w (.cells #[.int .i64 0, .string ⟨#[]⟩, .int .i64 0, .string ⟨#[]⟩, .slice none 0 0] 52))) 6 (by decide)
  have hR : rdDep T 0 l = none := rfl
  rw [hR]
  cases hr : rdSmall 6 l with
  | none =>
    rw [hr] at hB
    replace hB := Lib.hid hB
    clear hr h hR
    go_enter Tryz.func101, Tryz.ntmps101
    go_wp2_with fail
    refine hB.out.mono ?_
    rintro e w1 ⟨rfl, hm⟩
    exact ⟨rfl, rfl, (MMv.of_below (below1 _ _)).trans hm⟩
  | some x =>
    obtain ⟨k, r⟩ := x
    rw [hr] at hB
    replace hB := Lib.hid hB
    have HST : Hid (∀ w1, RdS w1 B R vt r T → MMv (XR R) (w.alloc (.cells #[.int .i64 0, .string ⟨#[]⟩, .int .i64 0, .string ⟨#[]⟩, .slice none 0 0] 52)) (XR R) w1 → RdAt w (w1.alloc (.cells #[.int .i64 (k : Int), .string ⟨#[]⟩, .int .i64 0, .string ⟨#[]⟩, .slice none 0 0] 52)) B R vt r T w.heap.size w1.heap.size [.int .i64 0, .string ⟨#[]⟩, .int .i64 0, .string ⟨#[]⟩, .slice none 0 0] [.int .i64 (k : Int), .string ⟨#[]⟩, .int .i64 0, .string ⟨#[]⟩, .slice none 0 0] 52) := Lib.hid fun w1 h1 h2 => RdAt.start h _ _ 52 h1 h2
    clear hr h hR
    have hkk : k = 0 ∨ 0 < k := by omega
    rcases hkk with hkk | hkk
    · subst hkk
      go_enter Tryz.func101, Tryz.ntmps101
      go_wp2_with fail
      refine hB.out.mono ?_
      rintro e w1 ⟨⟨v, rfl, hv⟩, hs, hm⟩
      have hv' : v = .int .i64 0 := hv
      subst hv'
      have HA := Lib.hid (HST.out w1 hs hm)
      clear hs hm hv
      go_upto_region 2 with fail
      obtain ⟨w2, e2⟩ : ∃ w2, w1.alloc (.cells #[.int .i64 0, .string ⟨#[]⟩, .int .i64 0, .string ⟨#[]⟩, .slice none 0 0] 52) = w2 := ⟨_, rfl⟩
      have HA2 : Hid (RdAt w w2 B R vt r T w.heap.size w1.heap.size [.int .i64 0, .string ⟨#[]⟩, .int .i64 0, .string ⟨#[]⟩, .slice none 0 0] [.int .i64 0, .string ⟨#[]⟩, .int .i64 0, .string ⟨#[]⟩, .slice none 0 0] 52) := by
        rw [← e2]
        exact HA.out
      have c0 := HA2.out.d.cell (j := 0) rfl
      go_wp2_with fail
      refine (need_no w2).mono ?_
      rintro e w3 ⟨rfl, hw⟩
      subst hw
      exact ⟨rfl, rfl, HA2.out.mv⟩
    · have hk2 : (0 : Int) < (k : Int) := by omega
      go_enter Tryz.func101, Tryz.ntmps101
      go_wp2_with fail
      refine hB.out.mono ?_
      rintro e w1 ⟨⟨v, rfl, hv⟩, hs, hm⟩
      have hv' : v = .int .i64 (k : Int) := hv
      subst hv'
      have HA := Lib.hid (HST.out w1 hs hm)
      clear hs hm hv
      go_upto_region 2 with fail
      obtain ⟨w2, e2⟩ : ∃ w2, w1.alloc (.cells #[.int .i64 (k : Int), .string ⟨#[]⟩, .int .i64 0, .string ⟨#[]⟩, .slice none 0 0] 52) = w2 := ⟨_, rfl⟩
      rw [e2] at HA
      have c0 := HA.out.d.cell (j := 0) rfl
      go_wp2_with fail
      refine (need_no w2).mono ?_
      rintro e w3 ⟨rfl, hw⟩
      subst hw
      exact ⟨rfl, rfl, HA.out.mv⟩
set_option maxHeartbeats 8000000 in
set_option maxRecDepth 100000 in
theorem rdep_succ (T : List ByteArray) (deep : Nat) (hdeep : deep + 1 ≤ 1000) (IH : DepRd T deep) : DepRd T (deep + 1) := by
  intro w B R vt l h
  have hB := small_c (h.below (below1 w (.cells #[.int .i64 0, .string ⟨#[]⟩, .int .i64 0, .string ⟨#[]⟩, .slice none 0 0] 52))) 6 (by decide)
  rw [rdDep]
  cases hr : rdSmall 6 l with
  | none =>
    rw [hr] at hB
    replace hB := Lib.hid hB
    clear hr h
    go_enter Tryz.func101, Tryz.ntmps101
    go_wp2_with fail
    refine hB.out.mono ?_
    rintro e w1 ⟨rfl, hm⟩
    exact ⟨rfl, rfl, (MMv.of_below (below1 _ _)).trans hm⟩
  | some x =>
    obtain ⟨k, r⟩ := x
    rw [hr] at hB
    replace hB := Lib.hid hB
    have hk6 := rdSmall_le hr
    simp only
    have HST : Hid (∀ w1, RdS w1 B R vt r T → MMv (XR R) (w.alloc (.cells #[.int .i64 0, .string ⟨#[]⟩, .int .i64 0, .string ⟨#[]⟩, .slice none 0 0] 52)) (XR R) w1 → RdAt w (w1.alloc (.cells #[.int .i64 (k : Int), .string ⟨#[]⟩, .int .i64 0, .string ⟨#[]⟩, .slice none 0 0] 52)) B R vt r T w.heap.size w1.heap.size [.int .i64 0, .string ⟨#[]⟩, .int .i64 0, .string ⟨#[]⟩, .slice none 0 0] [.int .i64 (k : Int), .string ⟨#[]⟩, .int .i64 0, .string ⟨#[]⟩, .slice none 0 0] 52) := Lib.hid fun w1 h1 h2 => RdAt.start h _ _ 52 h1 h2
    clear hr
    by_cases hk0 : k = 0
    · subst hk0
      rw [if_pos rfl]
      clear h
      go_enter Tryz.func101, Tryz.ntmps101
      go_wp2_with fail
      refine hB.out.mono ?_
      rintro e w1 ⟨⟨v, rfl, hv⟩, hs, hm⟩
      have hv' : v = .int .i64 0 := hv
      subst hv'
      have HA := Lib.hid (HST.out w1 hs hm)
      clear hs hm hv
      go_upto_region 2 with fail
      obtain ⟨w2, e2⟩ : ∃ w2, w1.alloc (.cells #[.int .i64 0, .string ⟨#[]⟩, .int .i64 0, .string ⟨#[]⟩, .slice none 0 0] 52) = w2 := ⟨_, rfl⟩
      have HA2 : Hid (RdAt w w2 B R vt r T w.heap.size w1.heap.size [.int .i64 0, .string ⟨#[]⟩, .int .i64 0, .string ⟨#[]⟩, .slice none 0 0] [.int .i64 0, .string ⟨#[]⟩, .int .i64 0, .string ⟨#[]⟩, .slice none 0 0] 52) := by
        rw [← e2]
        exact HA.out
      have c0 := HA2.out.d.cell (j := 0) rfl
      go_wp2_with fail
      refine (need_no w2).mono ?_
      rintro e w3 ⟨rfl, hw⟩
      subst hw
      exact ⟨rfl, rfl, HA2.out.mv⟩
    · rw [if_neg hk0]
      have hkp : 0 < k := by omega
      have hkp2 : (0 : Int) < (k : Int) := by omega
      have hdp2 : (0 : Int) < ((deep : Int) + 1) := by omega
      by_cases hk1 : k = 1
      · subst hk1
        rw [if_pos rfl]
        obtain ⟨RES, hRES⟩ : ∃ RES, (match rdText T r with
          | none => none
          | some (nm, l) =>
            match rdSmall 7 l with
            | none => none
            | some (op, l) =>
              if op = 0 then some (DepT.mk 1 nm 0 ⟨#[]⟩ 0 (fun i => i.elim0), l)
              else
                match rdText T l with
                | none => none
                | some (ev, l) => some (DepT.mk 1 nm (op : Int) ev 0 (fun i => i.elim0), l)) = RES := ⟨_, rfl⟩
        obtain ⟨POST, hPOST⟩ : ∃ POST, RdPost w B R vt T RES (isDep w.heap.size) = POST := ⟨_, rfl⟩
        refine cast (congrArg (fun X => Calls Tryz.prog 101 #[.pointer (some ⟨R, 0, none⟩), .int .i64 ((deep + 1 : Nat) : Int)] w X) (show POST = RdPost w B R vt T (match rdText T r with
          | none => none
          | some (nm, l) =>
            match rdSmall 7 l with
            | none => none
            | some (op, l) =>
              if op = 0 then some (DepT.mk 1 nm 0 ⟨#[]⟩ 0 (fun i => i.elim0), l)
              else
                match rdText T l with
                | none => none
                | some (ev, l) => some (DepT.mk 1 nm (op : Int) ev 0 (fun i => i.elim0), l)) (isDep w.heap.size) by rw [← hPOST, ← hRES])) ?_
        have HPO := Lib.hid hPOST
        have HRES := Lib.hid hRES
        clear h hPOST hRES
        go_enter Tryz.func101, Tryz.ntmps101
        go_wp2_with fail
        refine hB.out.mono ?_
        rintro e w1 ⟨⟨v, rfl, hv⟩, hs, hm⟩
        have hv' : v = .int .i64 1 := hv
        subst hv'
        have HA := Lib.hid (HST.out w1 hs hm)
        clear hs hm hv
        go_upto_region 2 with fail
        obtain ⟨w2, e2⟩ : ∃ w2, w1.alloc (.cells #[.int .i64 1, .string ⟨#[]⟩, .int .i64 0, .string ⟨#[]⟩, .slice none 0 0] 52) = w2 := ⟨_, rfl⟩
        have HA2 : Hid (RdAt w w2 B R vt r T w.heap.size w1.heap.size [.int .i64 0, .string ⟨#[]⟩, .int .i64 0, .string ⟨#[]⟩, .slice none 0 0] [.int .i64 1, .string ⟨#[]⟩, .int .i64 0, .string ⟨#[]⟩, .slice none 0 0] 52) := by
          rw [← e2]
          exact HA.out
        have HZL : Hid (w.heap.size ≤ w1.heap.size) := HA.out.ld
        obtain ⟨Z, hZ⟩ : ∃ Z, w.heap.size = Z := ⟨_, rfl⟩
        obtain ⟨DD, hD0⟩ : ∃ DD, w1.heap.size = DD := ⟨_, rfl⟩
        rw [hZ, hD0] at HA2
        rw [hZ, hD0, e2]
        have HZ := Lib.hid hZ
        clear HA e2 hZ hD0 HST hB
        have c0 := HA2.out.d.cell (j := 0) rfl
        go_wp2_with fail
        refine (need_yes w2).mono ?_
        rintro e w3 ⟨rfl, hw⟩
        subst hw
        have hN := text_rd HA2.out.rd
        cases hq1 : rdText T r with
        | none =>
          rw [hq1] at hN
          have HE : Hid (RES = none) := Lib.hid <| by
            rw [← HRES.out, hq1]
          replace hN := Lib.hid hN
          clear hq1
          go_wp2_with fail
          refine hN.out.mono ?_
          rintro e w3 ⟨rfl, hm⟩
          refine ⟨rfl, ?_⟩
          rw [← HPO.out, HE.out]
          exact ⟨rfl, HA2.out.mv.trans hm⟩
        | some y =>
          obtain ⟨nm, r1⟩ := y
          rw [hq1] at hN
          have HQ1 := Lib.hid hq1
          have HNM : Hid (nm.size ≤ maxLen) := HA2.out.rd.tsz nm (rdText_mem hq1)
          replace hN := Lib.hid hN
          clear hq1
          go_wp2_with fail
          refine hN.out.mono ?_
          rintro e w3 ⟨⟨v3, rfl, hv3⟩, hs3, hm3⟩
          have hv3' : v3 = .string nm := hv3
          subst hv3'
          have HA3 := Lib.hid (HA2.out.call hs3 hm3)
          have d1 := HA3.out.d.cell (j := 1) rfl
          have f1 := HA3.out.d.frozen 1
          clear hs3 hm3 hv3 hN c0
          go_upto_region 7 with fail
          obtain ⟨w4, e4⟩ : ∃ w4, w3.setCell ⟨DD, 1, none⟩ (.string nm) = w4 := ⟨_, rfl⟩
          have HA4 : Hid (RdAt w w4 B R vt r1 T Z DD [.int .i64 0, .string ⟨#[]⟩, .int .i64 0, .string ⟨#[]⟩, .slice none 0 0] [.int .i64 1, .string nm, .int .i64 0, .string ⟨#[]⟩, .slice none 0 0] 52) := by
            rw [← e4]
            exact HA3.out.setD 1 (.string nm)
          rw [e4]
          clear e4 d1 f1 HA3
          have hN := small_c HA4.out.rd 7 (by decide)
          cases hq2 : rdSmall 7 r1 with
          | none =>
            rw [hq2] at hN
            have HE : Hid (RES = none) := Lib.hid <| by
              rw [← HRES.out, HQ1.out]
              simp only
              rw [hq2]
            replace hN := Lib.hid hN
            clear hq2
            go_wp2_with fail
            refine hN.out.mono ?_
            rintro e w5 ⟨rfl, hm⟩
            refine ⟨rfl, ?_⟩
            rw [← HPO.out, HE.out]
            exact ⟨rfl, HA4.out.mv.trans hm⟩
          | some y =>
            obtain ⟨op, r2⟩ := y
            rw [hq2] at hN
            have HQ2 := Lib.hid hq2
            have hop7 := rdSmall_le hq2
            replace hN := Lib.hid hN
            clear hq2
            go_wp2_with fail
            refine hN.out.mono ?_
            rintro e w5 ⟨⟨v5, rfl, hv5⟩, hs5, hm5⟩
            have hv5' : v5 = .int .i64 (op : Int) := hv5
            subst hv5'
            have HA5 := Lib.hid (HA4.out.call hs5 hm5)
            have d2 := HA5.out.d.cell (j := 2) rfl
            have f2 := HA5.out.d.frozen 2
            clear hs5 hm5 hv5 hN
            go_upto_region 8 with fail
            obtain ⟨w6, e6⟩ : ∃ w6, w5.setCell ⟨DD, 2, none⟩ (.int .i64 (op : Int)) = w6 := ⟨_, rfl⟩
            have HA6 : Hid (RdAt w w6 B R vt r2 T Z DD [.int .i64 0, .string ⟨#[]⟩, .int .i64 0, .string ⟨#[]⟩, .slice none 0 0] [.int .i64 1, .string nm, .int .i64 (op : Int), .string ⟨#[]⟩, .slice none 0 0] 52) := by
              rw [← e6]
              exact HA5.out.setD 2 (.int .i64 (op : Int))
            rw [e6]
            clear e6 d2 f2 HA5
            have d2 := HA6.out.d.cell (j := 2) rfl
            by_cases hop : op = 0
            · subst hop
              have y0 := HA6.out.d.cell (j := 0) rfl
              have y1 := HA6.out.d.cell (j := 1) rfl
              have y2 := HA6.out.d.cell (j := 2) rfl
              have y3 := HA6.out.d.cell (j := 3) rfl
              have y4 := HA6.out.d.cell (j := 4) rfl
              have z0 := HA6.out.z.cell (j := 0) rfl
              have z1 := HA6.out.z.cell (j := 1) rfl
              have z2 := HA6.out.z.cell (j := 2) rfl
              have z3 := HA6.out.z.cell (j := 3) rfl
              have z4 := HA6.out.z.cell (j := 4) rfl
              have u0 := HA6.out.z.frozen 0
              have u1 := HA6.out.z.frozen 1
              have u2 := HA6.out.z.frozen 2
              have u3 := HA6.out.z.frozen 3
              have u4 := HA6.out.z.frozen 4
              obtain ⟨w9, e9⟩ : ∃ w9, (((((w6.setCell ⟨Z, 0, none⟩ (.int .i64 1)).setCell ⟨Z, 1, none⟩ (.string nm)).setCell ⟨Z, 2, none⟩ (.int .i64 0)).setCell ⟨Z, 3, none⟩ (.string ⟨#[]⟩)).setCell ⟨Z, 4, none⟩ (.slice none 0 0)) = w9 := ⟨_, rfl⟩
              have HA9 : Hid (RdAt w w9 B R vt r2 T Z DD [.int .i64 1, .string nm, .int .i64 0, .string ⟨#[]⟩, .slice none 0 0] [.int .i64 1, .string nm, .int .i64 0, .string ⟨#[]⟩, .slice none 0 0] 52) := by
                rw [← e9]
                exact HA6.out.fill5
              have x0 := HA9.out.z.cell (j := 0) rfl
              have x1 := HA9.out.z.cell (j := 1) rfl
              have x2 := HA9.out.z.cell (j := 2) rfl
              have x3 := HA9.out.z.cell (j := 3) rfl
              have x4 := HA9.out.z.cell (j := 4) rfl
              have HFIN : Hid (POST (.returned (.agg #[.int .i64 1, .string nm, .int .i64 0, .string ⟨#[]⟩, .slice none 0 0])) w9) := by
                rw [← HPO.out, ← HRES.out]
                rw [HQ1.out]
                simp only
                rw [HQ2.out]
                simp only
                rw [if_pos (by trivial)]
                refine ⟨⟨_, rfl, [.int .i64 1, .string nm, .int .i64 0, .string ⟨#[]⟩, .slice none 0 0], rfl, ?_⟩, HA9.out.rd, HA9.out.mv⟩
                exact ⟨none, 0, rfl, by decide, HNM.out, by decide, by decide, fun h => absurd rfl h⟩
              go_wp2_with fail
              refine bodyPost_ret (v := .agg #[.int .i64 1, .string nm, .int .i64 0, .string ⟨#[]⟩, .slice none 0 0]) (by simp [results, Tryz.results101, go_sem, x0, x1, x2, x3, x4]) rfl ?_
              exact HFIN.out
            · have hop1 : 0 < op := by omega
              have hop2 : (0 : Int) < (op : Int) := by omega
              have HOP := Lib.hid hop
              have hN := text_rd HA6.out.rd
              cases hq3 : rdText T r2 with
              | none =>
                rw [hq3] at hN
                have HE : Hid (RES = none) := Lib.hid <| by
                  rw [← HRES.out, HQ1.out]
                  simp only
                  rw [HQ2.out]
                  simp only
                  rw [if_neg HOP.out, hq3]
                replace hN := Lib.hid hN
                clear hq3 hop
                go_wp2_with fail
                refine hN.out.mono ?_
                rintro e w7 ⟨rfl, hm⟩
                refine ⟨rfl, ?_⟩
                rw [← HPO.out, HE.out]
                exact ⟨rfl, HA6.out.mv.trans hm⟩
              | some y =>
                obtain ⟨ev, r3⟩ := y
                rw [hq3] at hN
                have HQ3 := Lib.hid hq3
                have HEV : Hid (ev.size ≤ maxLen) := HA6.out.rd.tsz ev (rdText_mem hq3)
                replace hN := Lib.hid hN
                clear hq3 hop
                go_wp2_with fail
                refine hN.out.mono ?_
                rintro e w7 ⟨⟨v7, rfl, hv7⟩, hs7, hm7⟩
                have hv7' : v7 = .string ev := hv7
                subst hv7'
                have HA7 := Lib.hid (HA6.out.call hs7 hm7)
                have d3 := HA7.out.d.cell (j := 3) rfl
                have f3 := HA7.out.d.frozen 3
                clear hs7 hm7 hv7 hN d2
                go_upto_region 10 with fail
                obtain ⟨w8, e8⟩ : ∃ w8, w7.setCell ⟨DD, 3, none⟩ (.string ev) = w8 := ⟨_, rfl⟩
                have HA8 : Hid (RdAt w w8 B R vt r3 T Z DD [.int .i64 0, .string ⟨#[]⟩, .int .i64 0, .string ⟨#[]⟩, .slice none 0 0] [.int .i64 1, .string nm, .int .i64 (op : Int), .string ev, .slice none 0 0] 52) := by
                  rw [← e8]
                  exact HA7.out.setD 3 (.string ev)
                rw [e8]
                clear e8 d3 f3 HA7
                have y0 := HA8.out.d.cell (j := 0) rfl
                have y1 := HA8.out.d.cell (j := 1) rfl
                have y2 := HA8.out.d.cell (j := 2) rfl
                have y3 := HA8.out.d.cell (j := 3) rfl
                have y4 := HA8.out.d.cell (j := 4) rfl
                have z0 := HA8.out.z.cell (j := 0) rfl
                have z1 := HA8.out.z.cell (j := 1) rfl
                have z2 := HA8.out.z.cell (j := 2) rfl
                have z3 := HA8.out.z.cell (j := 3) rfl
                have z4 := HA8.out.z.cell (j := 4) rfl
                have u0 := HA8.out.z.frozen 0
                have u1 := HA8.out.z.frozen 1
                have u2 := HA8.out.z.frozen 2
                have u3 := HA8.out.z.frozen 3
                have u4 := HA8.out.z.frozen 4
                obtain ⟨w9, e9⟩ : ∃ w9, (((((w8.setCell ⟨Z, 0, none⟩ (.int .i64 1)).setCell ⟨Z, 1, none⟩ (.string nm)).setCell ⟨Z, 2, none⟩ (.int .i64 (op : Int))).setCell ⟨Z, 3, none⟩ (.string ev)).setCell ⟨Z, 4, none⟩ (.slice none 0 0)) = w9 := ⟨_, rfl⟩
                have HA9 : Hid (RdAt w w9 B R vt r3 T Z DD [.int .i64 1, .string nm, .int .i64 (op : Int), .string ev, .slice none 0 0] [.int .i64 1, .string nm, .int .i64 (op : Int), .string ev, .slice none 0 0] 52) := by
                  rw [← e9]
                  exact HA8.out.fill5
                have x0 := HA9.out.z.cell (j := 0) rfl
                have x1 := HA9.out.z.cell (j := 1) rfl
                have x2 := HA9.out.z.cell (j := 2) rfl
                have x3 := HA9.out.z.cell (j := 3) rfl
                have x4 := HA9.out.z.cell (j := 4) rfl
                have HFIN : Hid (POST (.returned (.agg #[.int .i64 1, .string nm, .int .i64 (op : Int), .string ev, .slice none 0 0])) w9) := by
                  rw [← HPO.out, ← HRES.out]
                  rw [HQ1.out]
                  simp only
                  rw [HQ2.out]
                  simp only
                  rw [if_neg HOP.out, HQ3.out]
                  simp only
                  refine ⟨⟨_, rfl, [.int .i64 1, .string nm, .int .i64 (op : Int), .string ev, .slice none 0 0], rfl, ?_⟩, HA9.out.rd, HA9.out.mv⟩
                  exact ⟨none, 0, rfl, by decide, HNM.out, HEV.out, by decide, fun h => absurd rfl h⟩
                go_wp2_with fail
                refine bodyPost_ret (v := .agg #[.int .i64 1, .string nm, .int .i64 (op : Int), .string ev, .slice none 0 0]) (by simp [results, Tryz.results101, go_sem, x0, x1, x2, x3, x4]) rfl ?_
                exact HFIN.out
      · rw [if_neg hk1]
        have hrd : (match rdSmall 16 r with
          | none => none
          | some (n, l) =>
            match rdMany (rdDep T deep) n l with
            | none => none
            | some (xs, l) => some (DepT.mk (k : Int) ⟨#[]⟩ 0 ⟨#[]⟩ xs.length (fun i => xs[i]), l)) = (match rdDeps T deep r with | none => none | some (xs, l) => some (DepT.mk (k : Int) ⟨#[]⟩ 0 ⟨#[]⟩ xs.length (fun i => xs[i]), l)) := by
          unfold rdDeps
          cases rdSmall 16 r with
          | none => rfl
          | some x => rfl
        obtain ⟨RES, hRES⟩ : ∃ RES, (match rdDeps T deep r with | none => none | some (xs, l) => some (DepT.mk (k : Int) ⟨#[]⟩ 0 ⟨#[]⟩ xs.length (fun i => xs[i]), l)) = RES := ⟨_, rfl⟩
        refine (?_ : ∀ X, X = RES → Calls Tryz.prog 101 #[.pointer (some ⟨R, 0, none⟩), .int .i64 ((deep + 1 : Nat) : Int)] w (RdPost w B R vt T X (isDep w.heap.size))) _ (hrd.trans hRES)
        intro X hX
        subst hX
        obtain ⟨POST, hPOST⟩ : ∃ POST, RdPost w B R vt T X (isDep w.heap.size) = POST := ⟨_, rfl⟩
        rw [hPOST]
        have HPO := Lib.hid hPOST
        have HRES := Lib.hid hRES
        have hkb : ((k : Int) != 1) = true := by
          have : ¬ (k : Int) = 1 := by omega
          simpa using this
        have HIH := Lib.hid IH
        clear h hPOST hRES hrd hk1 IH
        go_enter Tryz.func101, Tryz.ntmps101
        go_wp2_with fail
        refine hB.out.mono ?_
        rintro e w1 ⟨⟨v, rfl, hv⟩, hs, hm⟩
        have hv' : v = .int .i64 (k : Int) := hv
        subst hv'
        have HA := Lib.hid (HST.out w1 hs hm)
        clear hs hm hv
        go_upto_region 2 with fail
        obtain ⟨w2, e2⟩ : ∃ w2, w1.alloc (.cells #[.int .i64 (k : Int), .string ⟨#[]⟩, .int .i64 0, .string ⟨#[]⟩, .slice none 0 0] 52) = w2 := ⟨_, rfl⟩
        have HA2 : Hid (RdAt w w2 B R vt r T w.heap.size w1.heap.size [.int .i64 0, .string ⟨#[]⟩, .int .i64 0, .string ⟨#[]⟩, .slice none 0 0] [.int .i64 (k : Int), .string ⟨#[]⟩, .int .i64 0, .string ⟨#[]⟩, .slice none 0 0] 52) := by
          rw [← e2]
          exact HA.out
        have HZL : Hid (w.heap.size ≤ w1.heap.size) := HA.out.ld
        obtain ⟨Z, hZ⟩ : ∃ Z, w.heap.size = Z := ⟨_, rfl⟩
        obtain ⟨DD, hD0⟩ : ∃ DD, w1.heap.size = DD := ⟨_, rfl⟩
        rw [hZ, hD0] at HA2
        rw [hZ, hD0, e2]
        have HZ := Lib.hid hZ
        clear HA e2 hZ hD0 HST hB
        have c0 := HA2.out.d.cell (j := 0) rfl
        go_wp2_with fail
        refine (need_yes w2).mono ?_
        rintro e w3 ⟨rfl, hw⟩
        subst hw
        have hN := rdeps_of HIH.out w2 B R vt r HA2.out.rd
        cases hq1 : rdDeps T deep r with
        | none =>
          rw [hq1] at hN
          have HE : Hid (X = none) := Lib.hid <| by
            rw [← HRES.out, hq1]
          replace hN := Lib.hid hN
          clear hq1
          go_wp2_with fail
          refine hN.out.mono ?_
          rintro e w3 ⟨rfl, hm⟩
          refine ⟨rfl, ?_⟩
          rw [← HPO.out, HE.out]
          exact ⟨rfl, HA2.out.mv.trans hm⟩
        | some y =>
          obtain ⟨xs, r1⟩ := y
          rw [hq1] at hN
          have HQ1 := Lib.hid hq1
          replace hN := Lib.hid hN
          clear hq1
          go_wp2_with fail
          refine hN.out.mono ?_
          rintro e w3 ⟨⟨v3, rfl, hv3⟩, hs3, hm3⟩
          have hdv : DepsV w3 (New w2.heap.size w3) xs.length (fun i => xs[i]) v3 := hv3
          obtain ⟨a3, c3, rfl, _⟩ := id hdv
          have HDV := Lib.hid hdv
          have HW2 : Hid (DD < w2.heap.size ∧ Z < w2.heap.size) := ⟨HA2.out.d.lt, HA2.out.z.lt⟩
          have HA3 := Lib.hid (HA2.out.call hs3 hm3)
          obtain ⟨xn, hxn⟩ : ∃ xn, xs.length = xn := ⟨_, rfl⟩
          rw [hxn]
          have HXN := Lib.hid hxn
          have d4 := HA3.out.d.cell (j := 4) rfl
          have f4 := HA3.out.d.frozen 4
          clear hs3 hm3 hv3 hN c0 hdv hxn
          go_upto_region 5 with fail
          obtain ⟨w4, e4⟩ : ∃ w4, w3.setCell ⟨DD, 4, none⟩ (.slice a3 xn c3) = w4 := ⟨_, rfl⟩
          have HA4 : Hid (RdAt w w4 B R vt r1 T Z DD [.int .i64 0, .string ⟨#[]⟩, .int .i64 0, .string ⟨#[]⟩, .slice none 0 0] [.int .i64 (k : Int), .string ⟨#[]⟩, .int .i64 0, .string ⟨#[]⟩, .slice a3 xn c3] 52) := by
            rw [← e4]
            exact HA3.out.setD 4 (.slice a3 xn c3)
          rw [e4]
          have HE4 := Lib.hid e4
          clear e4 d4 f4 HA3
          have y0 := HA4.out.d.cell (j := 0) rfl
          have y1 := HA4.out.d.cell (j := 1) rfl
          have y2 := HA4.out.d.cell (j := 2) rfl
          have y3 := HA4.out.d.cell (j := 3) rfl
          have y4 := HA4.out.d.cell (j := 4) rfl
          have z0 := HA4.out.z.cell (j := 0) rfl
          have z1 := HA4.out.z.cell (j := 1) rfl
          have z2 := HA4.out.z.cell (j := 2) rfl
          have z3 := HA4.out.z.cell (j := 3) rfl
          have z4 := HA4.out.z.cell (j := 4) rfl
          have u0 := HA4.out.z.frozen 0
          have u1 := HA4.out.z.frozen 1
          have u2 := HA4.out.z.frozen 2
          have u3 := HA4.out.z.frozen 3
          have u4 := HA4.out.z.frozen 4
          obtain ⟨w9, e9⟩ : ∃ w9, (((((w4.setCell ⟨Z, 0, none⟩ (.int .i64 (k : Int))).setCell ⟨Z, 1, none⟩ (.string ⟨#[]⟩)).setCell ⟨Z, 2, none⟩ (.int .i64 0)).setCell ⟨Z, 3, none⟩ (.string ⟨#[]⟩)).setCell ⟨Z, 4, none⟩ (.slice a3 xn c3)) = w9 := ⟨_, rfl⟩
          have HA9 : Hid (RdAt w w9 B R vt r1 T Z DD [.int .i64 (k : Int), .string ⟨#[]⟩, .int .i64 0, .string ⟨#[]⟩, .slice a3 xn c3] [.int .i64 (k : Int), .string ⟨#[]⟩, .int .i64 0, .string ⟨#[]⟩, .slice a3 xn c3] 52) := by
            rw [← e9]
            exact HA4.out.fill5
          have x0 := HA9.out.z.cell (j := 0) rfl
          have x1 := HA9.out.z.cell (j := 1) rfl
          have x2 := HA9.out.z.cell (j := 2) rfl
          have x3 := HA9.out.z.cell (j := 3) rfl
          have x4 := HA9.out.z.cell (j := 4) rfl
          have HFIN : Hid (POST (.returned (.agg #[.int .i64 (k : Int), .string ⟨#[]⟩, .int .i64 0, .string ⟨#[]⟩, .slice a3 xn c3])) w9) := by
            rw [← HPO.out, ← HRES.out]
            rw [HQ1.out]
            simp only
            refine ⟨⟨_, rfl, [.int .i64 (k : Int), .string ⟨#[]⟩, .int .i64 0, .string ⟨#[]⟩, .slice a3 xn c3], rfl, ?_⟩, HA9.out.rd, HA9.out.mv⟩
            refine depC_iff.2 ⟨_, rfl, keyWf (by omega) (by omega), by decide, by decide, ?_⟩
            have hdv := HDV.out
            have hxn := HXN.out
            subst hxn
            have hsame : ∀ b, w2.heap.size ≤ b → w9.heap[b]? = w3.heap[b]? := fun b hb => by
              have h1 := HW2.out
              rw [← e9, fill5_other (by omega), ← HE4.out]
              exact set_other _ (by omega)
            exact hdv.keep (fun b hb => ⟨by rw [HZ.out]; have := hb.1; have := HW2.out.2; omega, hb.2.keep (hsame b hb.1)⟩) (fun b hb _ => hsame b hb.1)
          go_wp2_with fail
          refine bodyPost_ret (v := .agg #[.int .i64 (k : Int), .string ⟨#[]⟩, .int .i64 0, .string ⟨#[]⟩, .slice a3 xn c3]) (by simp [results, Tryz.results101, go_sem, x0, x1, x2, x3, x4]) rfl ?_
          exact HFIN.out
theorem rdep_c (T : List ByteArray) : ∀ deep, deep ≤ 1000 → DepRd T deep
  | 0, _ => rdep_zero T
  | d + 1, h => rdep_succ T d h (rdep_c T d (by omega))
end Go.Proofs.YtbdankpkdhhlmaaGreat
namespace Go.Proofs.YtbdankpkdhhlmaaGreat
set_option linter.unusedVariables false
set_option linter.unusedSimpArgs false
open Go.RowKit Go.Maps

def isPkg (L : Nat) (p : PkgT) (w : World) (v : Value) : Prop := ∃ (a : Fin 7 → Option Addr) (c : Fin 7 → Nat) (af : Option Addr) (nf cf : Nat), v = .agg #[.string p.name, .string p.evr, .string p.arch, .string p.vendor, .slice (a 0) (p.n 0) (c 0), .slice (a 1) (p.n 1) (c 1), .slice (a 2) (p.n 2) (c 2), .slice (a 3) (p.n 3) (c 3), .slice (a 4) (p.n 4) (c 4), .slice (a 5) (p.n 5) (c 5), .slice (a 6) (p.n 6) (c 6), .slice af nf cf] ∧ PkgV w (New L w) p (fun i => .slice (a i) (p.n i) (c i)) (.slice af nf cf)
/-- The lists that have been read, in memory from L on. -/
structure ListsAt (w : World) (L : Nat) (LL : List (List DepT)) (v : Fin 7 → Value) : Prop where
  len : LL.length ≤ 7
  done : ∀ j : Fin 7, j.val < LL.length → DepsV w (New L w) (LL.getD j.val []).length (fun i => (LL.getD j.val [])[i]) (v j)
  rest : ∀ j : Fin 7, LL.length ≤ j.val → v j = .slice none 0 0
theorem ListsAt.keep {w w' : World} {L : Nat} {LL : List (List DepT)} {v : Fin 7 → Value} (h : ListsAt w L LL v) (hk : ∀ b, L ≤ b → b < w.heap.size → w'.heap[b]? = w.heap[b]?) : ListsAt w' L LL v :=
  ⟨h.len, fun j hj => (h.done j hj).keep (fun b hb => ⟨hb.1, hb.2.keep (hk b hb.1 hb.2.lt)⟩) (fun b hb hl => hk b hb.1 hl), h.rest⟩
theorem ListsAt.nil (w : World) (L : Nat) : ListsAt w L [] (fun _ => .slice none 0 0) := ⟨by decide, fun j hj => absurd hj (Nat.not_lt_zero _), fun j _ => rfl⟩
theorem ListsAt.next {w w2 w3 : World} {L : Nat} {LL : List (List DepT)} {v : Fin 7 → Value} (h : ListsAt w L LL v) (hL : L ≤ w.heap.size) (hk : ∀ b, L ≤ b → b < w.heap.size → w3.heap[b]? = w.heap[b]?) (hk2 : ∀ b, w.heap.size ≤ b → b < w2.heap.size → w3.heap[b]? = w2.heap[b]?) (h7 : LL.length < 7) {xs : List DepT} {x : Value} (hd : DepsV w2 (New w.heap.size w2) xs.length (fun i => xs[i]) x) :
    ListsAt w3 L (LL ++ [xs]) (fun j => if j.val = LL.length then x else v j) := by
  have hk' := h.keep (w' := w3) hk
  refine ⟨by rw [List.length_append, List.length_singleton]; omega, fun j hj => ?_, fun j hj => ?_⟩
  · rw [List.length_append, List.length_singleton] at hj
    by_cases e : j.val = LL.length
    · have e1 : (LL ++ [xs]).getD j.val [] = xs := by
        rw [e]
        simp [List.getD]
      simp only [if_pos e]
      have h5 : DepsV w3 (New L w3) xs.length (fun i => xs[i]) x := hd.keep (fun b hb => ⟨Nat.le_trans hL hb.1, hb.2.keep (hk2 b hb.1 hb.2.lt)⟩) (fun b hb hl => hk2 b hb.1 hl)
      have e2 : ∀ ys : List DepT, ys = xs → DepsV w3 (New L w3) ys.length (fun i => ys[i]) x := fun ys e => by
        subst e
        exact h5
      exact e2 _ e1
    · have e1 : (LL ++ [xs]).getD j.val [] = LL.getD j.val [] := by
        simp [List.getD, List.getElem?_append_left (show j.val < LL.length by omega)]
      simp only [if_neg e]
      have h5 := hk'.done j (by omega)
      have e2 : ∀ ys : List DepT, ys = LL.getD j.val [] → DepsV w3 (New L w3) ys.length (fun i => ys[i]) (v j) := fun ys e => by
        subst e
        exact h5
      exact e2 _ e1
  · rw [List.length_append, List.length_singleton] at hj
    rw [if_neg (by omega)]
    exact h.rest j (by omega)
theorem pkgCells_set (nm ev ar ve : ByteArray) (v : Fin 7 → Value) (vf : Value) (i : Nat) (h : i < 7) (x : Value) : (pkgCells nm ev ar ve v vf).set (4 + i) x = pkgCells nm ev ar ve (fun j => if j.val = i then x else v j) vf := by
  match i, h with
  | 0, _ | 1, _ | 2, _ | 3, _ | 4, _ | 5, _ | 6, _ => rfl
theorem pkgCells_file (nm ev ar ve : ByteArray) (v : Fin 7 → Value) (vf x : Value) : (pkgCells nm ev ar ve v vf).set 11 x = pkgCells nm ev ar ve v x := rfl
/-- Behind the lists. -/
def restPkg (T : List ByteArray) (nm ev ar ve : ByteArray) : Option (List (List DepT) × List UInt8) → Option (PkgT × List UInt8)
  | none => none
  | some (L, l) =>
    match rdSmall 16 l with
    | none => none
    | some (n, l) =>
      match rdMany (rdText T) n l with
      | none => none
      | some (fs, l) => some (mkPkg nm ev ar ve L fs, l)
section
variable {w0 w w' : World} {B R : Nat} {vt : Value} {l r : List UInt8} {T : List ByteArray} {Z D : Nat} {zs cs : List Value} {ty : TypeId}
theorem RdAt.fill12 {x0 x1 x2 x3 x4 x5 x6 x7 x8 x9 x10 x11 z0 z1 z2 z3 z4 z5 z6 z7 z8 z9 z10 z11 : Value} (h : RdAt w0 w B R vt l T Z D [z0, z1, z2, z3, z4, z5, z6, z7, z8, z9, z10, z11] cs ty) : RdAt w0 ((((((((((((w.setCell ⟨Z, 0, none⟩ x0).setCell ⟨Z, 1, none⟩ x1).setCell ⟨Z, 2, none⟩ x2).setCell ⟨Z, 3, none⟩ x3).setCell ⟨Z, 4, none⟩ x4).setCell ⟨Z, 5, none⟩ x5).setCell ⟨Z, 6, none⟩ x6).setCell ⟨Z, 7, none⟩ x7).setCell ⟨Z, 8, none⟩ x8).setCell ⟨Z, 9, none⟩ x9).setCell ⟨Z, 10, none⟩ x10).setCell ⟨Z, 11, none⟩ x11) B R vt l T Z D [x0, x1, x2, x3, x4, x5, x6, x7, x8, x9, x10, x11] cs ty :=
  (((((((((((h.setZ 0 x0).setZ 1 x1).setZ 2 x2).setZ 3 x3).setZ 4 x4).setZ 5 x5).setZ 6 x6).setZ 7 x7).setZ 8 x8).setZ 9 x9).setZ 10 x10).setZ 11 x11
end

set_option maxHeartbeats 8000000 in
set_option maxRecDepth 100000 in
theorem rpack_c (w : World) (B R : Nat) (vt : Value) (l : List UInt8) (T : List ByteArray) (h : RdS w B R vt l T) :
    Calls Tryz.prog 53 #[.pointer (some ⟨R, 0, none⟩)] w (RdPost w B R vt T (rdPkg T l) (isPkg w.heap.size)) := by
  obtain ⟨RES, hRES⟩ : ∃ RES, rdPkg T l = RES := ⟨_, rfl⟩
  rw [hRES]
  obtain ⟨POST, hPOST⟩ : ∃ POST, RdPost w B R vt T RES (isPkg w.heap.size) = POST := ⟨_, rfl⟩
  rw [hPOST]
  have HPO := Lib.hid hPOST
  have HRES := Lib.hid hRES
  have HH := Lib.hid h
  have HNO : Hid (RES = none → ∀ w', MMv (XR R) w (XR R) w' → POST (.panicked oddC) w') := Lib.hid fun e w' hm => by
    rw [← HPO.out, e]
    exact ⟨rfl, hm⟩
  obtain ⟨wz, ez⟩ : ∃ wz, w.alloc (.cells #[.string ⟨#[]⟩, .string ⟨#[]⟩, .string ⟨#[]⟩, .string ⟨#[]⟩, .slice none 0 0, .slice none 0 0, .slice none 0 0, .slice none 0 0, .slice none 0 0, .slice none 0 0, .slice none 0 0, .slice none 0 0] 45) = wz := ⟨_, rfl⟩
  have HSZ : Hid (RdS wz B R vt l T ∧ MMv (XR R) w (XR R) wz) := by
    rw [← ez]
    exact ⟨h.below (below1 _ _), MMv.of_below (below1 _ _)⟩
  have HST : Hid (∀ r w1 cs, RdS w1 B R vt r T → MMv (XR R) wz (XR R) w1 → RdAt w (w1.alloc (.cells cs.toArray 45)) B R vt r T w.heap.size w1.heap.size [.string ⟨#[]⟩, .string ⟨#[]⟩, .string ⟨#[]⟩, .string ⟨#[]⟩, .slice none 0 0, .slice none 0 0, .slice none 0 0, .slice none 0 0, .slice none 0 0, .slice none 0 0, .slice none 0 0, .slice none 0 0] cs 45) := Lib.hid fun r w1 cs h1 h2 => by
    rw [← ez] at h2
    exact RdAt.start h _ cs 45 h1 h2
  clear hRES hPOST h
  go_enter Tryz.func53, Tryz.ntmps53
  have hN := text_rd HSZ.out.1
  cases hq0 : rdText T l with
  | none =>
    rw [hq0] at hN
    have HE : Hid (RES = none) := Lib.hid <| by
      rw [← HRES.out]
      unfold rdPkg
      rw [hq0]
    replace hN := Lib.hid hN
    clear hq0
    go_wp2_with fail
    refine hN.out.mono ?_
    rintro e w2 ⟨rfl, hm⟩
    exact ⟨rfl, HNO.out HE.out _ ((HSZ.out.2).trans hm)⟩
  | some y =>
    obtain ⟨nm, r0⟩ := y
    rw [hq0] at hN
    have HQ0 := Lib.hid hq0
    have HN0 : Hid (nm.size ≤ maxLen) := (HSZ.out.1).tsz nm (rdText_mem hq0)
    replace hN := Lib.hid hN
    clear hq0
    go_wp2_with fail
    refine hN.out.mono ?_
    rintro e w0 ⟨⟨v2, rfl, hv2⟩, hs2, hm2⟩
    have hv2' : v2 = .string nm := hv2
    subst hv2'
    have HS0 : Hid (RdS w0 B R vt r0 T ∧ MMv (XR R) w (XR R) w0 ∧ MMv (XR R) wz (XR R) w0) := ⟨hs2, (HSZ.out.2).trans hm2, hm2⟩
    clear hs2 hm2 hv2 hN ez
    have hN := text_rd HS0.out.1
    cases hq1 : rdText T r0 with
    | none =>
      rw [hq1] at hN
      have HE : Hid (RES = none) := Lib.hid <| by
        rw [← HRES.out]
        unfold rdPkg
        rw [HQ0.out]
        simp only
        rw [hq1]
      replace hN := Lib.hid hN
      clear hq1
      go_wp2_with fail
      refine hN.out.mono ?_
      rintro e w2 ⟨rfl, hm⟩
      exact ⟨rfl, HNO.out HE.out _ ((HS0.out.2.1).trans hm)⟩
    | some y =>
      obtain ⟨ev, r1⟩ := y
      rw [hq1] at hN
      have HQ1 := Lib.hid hq1
      have HN1 : Hid (ev.size ≤ maxLen) := (HS0.out.1).tsz ev (rdText_mem hq1)
      replace hN := Lib.hid hN
      clear hq1
      go_wp2_with fail
      refine hN.out.mono ?_
      rintro e w1 ⟨⟨v2, rfl, hv2⟩, hs2, hm2⟩
      have hv2' : v2 = .string ev := hv2
      subst hv2'
      have HS1 : Hid (RdS w1 B R vt r1 T ∧ MMv (XR R) w (XR R) w1 ∧ MMv (XR R) wz (XR R) w1) := ⟨hs2, (HS0.out.2.1).trans hm2, HS0.out.2.2.trans hm2⟩
      clear hs2 hm2 hv2 hN
      have hN := text_rd HS1.out.1
      cases hq2 : rdText T r1 with
      | none =>
        rw [hq2] at hN
        have HE : Hid (RES = none) := Lib.hid <| by
          rw [← HRES.out]
          unfold rdPkg
          rw [HQ0.out]
          simp only
          rw [HQ1.out]
          simp only
          rw [hq2]
        replace hN := Lib.hid hN
        clear hq2
        go_wp2_with fail
        refine hN.out.mono ?_
        rintro e w2 ⟨rfl, hm⟩
        exact ⟨rfl, HNO.out HE.out _ ((HS1.out.2.1).trans hm)⟩
      | some y =>
        obtain ⟨ar, r2⟩ := y
        rw [hq2] at hN
        have HQ2 := Lib.hid hq2
        have HN2 : Hid (ar.size ≤ maxLen) := (HS1.out.1).tsz ar (rdText_mem hq2)
        replace hN := Lib.hid hN
        clear hq2
        go_wp2_with fail
        refine hN.out.mono ?_
        rintro e w2 ⟨⟨v2, rfl, hv2⟩, hs2, hm2⟩
        have hv2' : v2 = .string ar := hv2
        subst hv2'
        have HS2 : Hid (RdS w2 B R vt r2 T ∧ MMv (XR R) w (XR R) w2 ∧ MMv (XR R) wz (XR R) w2) := ⟨hs2, (HS1.out.2.1).trans hm2, HS1.out.2.2.trans hm2⟩
        clear hs2 hm2 hv2 hN
        have hN := text_rd HS2.out.1
        cases hq3 : rdText T r2 with
        | none =>
          rw [hq3] at hN
          have HE : Hid (RES = none) := Lib.hid <| by
            rw [← HRES.out]
            unfold rdPkg
            rw [HQ0.out]
            simp only
            rw [HQ1.out]
            simp only
            rw [HQ2.out]
            simp only
            rw [hq3]
          replace hN := Lib.hid hN
          clear hq3
          go_wp2_with fail
          refine hN.out.mono ?_
          rintro e w2 ⟨rfl, hm⟩
          exact ⟨rfl, HNO.out HE.out _ ((HS2.out.2.1).trans hm)⟩
        | some y =>
          obtain ⟨ve, r3⟩ := y
          rw [hq3] at hN
          have HQ3 := Lib.hid hq3
          have HN3 : Hid (ve.size ≤ maxLen) := (HS2.out.1).tsz ve (rdText_mem hq3)
          replace hN := Lib.hid hN
          clear hq3
          go_wp2_with fail
          refine hN.out.mono ?_
          rintro e w3 ⟨⟨v2, rfl, hv2⟩, hs2, hm2⟩
          have hv2' : v2 = .string ve := hv2
          subst hv2'
          have HS3 : Hid (RdS w3 B R vt r3 T ∧ MMv (XR R) w (XR R) w3 ∧ MMv (XR R) wz (XR R) w3) := ⟨hs2, (HS2.out.2.1).trans hm2, HS2.out.2.2.trans hm2⟩
          clear hs2 hm2 hv2 hN
          go_upto_region 2 with fail
          obtain ⟨w4, e4⟩ : ∃ w4, w3.alloc (.cells #[.string nm, .string ev, .string ar, .string ve, .slice none 0 0, .slice none 0 0, .slice none 0 0, .slice none 0 0, .slice none 0 0, .slice none 0 0, .slice none 0 0, .slice none 0 0] 45) = w4 := ⟨_, rfl⟩
          have HA4 : Hid (RdAt w w4 B R vt r3 T w.heap.size w3.heap.size [.string ⟨#[]⟩, .string ⟨#[]⟩, .string ⟨#[]⟩, .string ⟨#[]⟩, .slice none 0 0, .slice none 0 0, .slice none 0 0, .slice none 0 0, .slice none 0 0, .slice none 0 0, .slice none 0 0, .slice none 0 0] (pkgCells nm ev ar ve (fun _ => .slice none 0 0) (.slice none 0 0)) 45) := by
            rw [← e4]
            exact HST.out r3 w3 _ HS3.out.1 HS3.out.2.2
          have HL4 : Hid (w3.heap.size + 1 ≤ w4.heap.size ∧ w.heap.size ≤ w3.heap.size) := Lib.hid ⟨by rw [← e4]; simp, HS3.out.2.1.size⟩
          obtain ⟨Z, hZ⟩ : ∃ Z, w.heap.size = Z := ⟨_, rfl⟩
          obtain ⟨DD, hD0⟩ : ∃ DD, w3.heap.size = DD := ⟨_, rfl⟩
          rw [hZ, hD0] at HA4 HL4
          rw [hZ, hD0, e4]
          have HZ := Lib.hid hZ
          clear e4 hZ hD0 HST HSZ HS0 HS1 HS2 HS3
          clear w0 w1 w2 w3
          go_wp2_with fail
          refine (clists_c DD w4).mono ?_
          rintro e w5 ⟨rfl, hb5, hx5⟩
          obtain ⟨PL, hPL⟩ : ∃ PL, w4.heap.size = PL := ⟨_, rfl⟩
          rw [hPL] at hx5 ⊢
          have HPL : Hid (DD + 1 ≤ PL ∧ Z ≤ DD) := Lib.hid ⟨by rw [← hPL]; exact HL4.out.1, HL4.out.2⟩
          have HPB := Lib.hid hx5
          have HA5 := Lib.hid (HA4.out.below hb5)
          obtain ⟨TOT, hTOT⟩ : ∃ TOT, rdMany (rdDeps T 16) 7 r3 = TOT := ⟨_, rfl⟩
          have HTOT := Lib.hid hTOT
          have HRN : Hid (RES = restPkg T nm ev ar ve TOT) := Lib.hid <| by
            rw [← HRES.out, ← hTOT]
            unfold rdPkg
            rw [HQ0.out]; simp only; rw [HQ1.out]; simp only; rw [HQ2.out]; simp only; rw [HQ3.out]; simp only
            cases rdMany (rdDeps T 16) 7 r3 with
            | none => rfl
            | some x => rfl
          clear hb5 hx5 hPL hTOT HA4 HL4
          go_wp2_with fail
          go_loopw [17] (fun vi wr => ∃ i : Nat, vi = .int .i64 i ∧ i ≤ 7 ∧ Hid (∃ LL q v, LL.length = i ∧ TOT = cmb LL (rdMany (rdDeps T 16) (7 - i) q) ∧ RdAt w wr B R vt q T Z DD [.string ⟨#[]⟩, .string ⟨#[]⟩, .string ⟨#[]⟩, .string ⟨#[]⟩, .slice none 0 0, .slice none 0 0, .slice none 0 0, .slice none 0 0, .slice none 0 0, .slice none 0 0, .slice none 0 0, .slice none 0 0] (pkgCells nm ev ar ve v (.slice none 0 0)) 45 ∧ BoxN wr PL (placesL DD) 115 ∧ ListsAt wr (DD + 1) LL v)) (fun vi _ => 7 - (intOf vi).toNat)
          case atStart =>
            refine ⟨0, rfl, Nat.zero_le _, [], r3, _, rfl, ?_, HA5.out, HPB.out, ListsAt.nil _ _⟩
            rw [cmb_nil]
            exact HTOT.out.symm
          case round =>
            clear HA5 HPB
            obtain ⟨i, rfl, hin, HT⟩ := hrel
            obtain ⟨LL, q, v, hll, htot, hat, hpb, hla⟩ := HT.out
            by_cases hlt : i < 7
            · have hi1 : (i : Int) < 7 := by omega
              have p0 := hpb.cell (places_at DD i hlt)
              have hC : Calls Tryz.prog 75 #[.pointer (some ⟨R, 0, none⟩), .int .i64 16] wr (RdPost wr B R vt T (rdDeps T 16 q) (isDeps wr.heap.size)) := rdeps_of (rdep_c T 16 (by decide)) wr B R vt q hat.rd
              obtain ⟨k, hk⟩ : ∃ k, 7 - i = k + 1 := ⟨6 - i, by omega⟩
              rw [hk] at htot
              have hRD : R < DD := Nat.lt_of_lt_of_le hat.rl (by rw [HZ.out]; exact HPL.out.2)
              cases hq : rdDeps T 16 q with
              | none =>
                rw [hq] at hC
                rw [cmb_stop hq] at htot
                have HE : Hid (RES = none) := Lib.hid <| by
                  rw [HRN.out, htot]
                  rfl
                have HM := Lib.hid hat.mv
                replace hC := Lib.hid hC
                clear htot hat hpb hla HT hq hk hll
                go_wp2_with fail
                refine hC.out.mono ?_
                rintro e w6 ⟨rfl, hm⟩
                exact ⟨rfl, HNO.out HE.out _ (HM.out.trans hm)⟩
              | some y =>
                obtain ⟨xs, q2⟩ := y
                rw [hq] at hC
                rw [cmb_step hq] at htot
                have HTT := Lib.hid htot
                have HAT := Lib.hid hat
                have HPB := Lib.hid hpb
                have HLA := Lib.hid hla
                have HLL := Lib.hid hll
                have HK := Lib.hid hk
                replace hC := Lib.hid hC
                clear htot hat hpb hla HT hq hk hll
                go_wp2_with fail
                refine hC.out.mono ?_
                rintro e w6 ⟨⟨v6, rfl, hv6⟩, hs6, hm6⟩
                have hdv : DepsV w6 (New wr.heap.size w6) xs.length (fun i => xs[i]) v6 := hv6
                obtain ⟨a6, c6, rfl, _⟩ := id hdv
                have hat6 := HAT.out.call hs6 hm6
                have hpb6 := HPB.out.to (hm6.block PL HPB.out.lt (fun e => by have e2 : PL = R := e; have := HPL.out.1; omega)).1
                have d1 := hat6.d.cell (pkgCells_at nm ev ar ve v (.slice none 0 0) i hlt)
                have f1 := hat6.d.frozen (4 + i)
                have HNX : Hid (∃ LL q v, LL.length = i + 1 ∧ TOT = cmb LL (rdMany (rdDeps T 16) (7 - (i + 1)) q) ∧ RdAt w (w6.setCell ⟨DD, 4 + i, none⟩ (.slice a6 xs.length c6)) B R vt q T Z DD [.string ⟨#[]⟩, .string ⟨#[]⟩, .string ⟨#[]⟩, .string ⟨#[]⟩, .slice none 0 0, .slice none 0 0, .slice none 0 0, .slice none 0 0, .slice none 0 0, .slice none 0 0, .slice none 0 0, .slice none 0 0] (pkgCells nm ev ar ve v (.slice none 0 0)) 45 ∧ BoxN (w6.setCell ⟨DD, 4 + i, none⟩ (.slice a6 xs.length c6)) PL (placesL DD) 115 ∧ ListsAt (w6.setCell ⟨DD, 4 + i, none⟩ (.slice a6 xs.length c6)) (DD + 1) LL v) := Lib.hid <| by
                  have h1 := hat6.setD (4 + i) (.slice a6 xs.length c6)
                  rw [pkgCells_set nm ev ar ve v _ i hlt] at h1
                  have hlw : DD + 1 ≤ wr.heap.size := by have := HPB.out.lt; have := HPL.out.1; omega
                  have h2 := HLA.out.next (w2 := w6) (w3 := w6.setCell ⟨DD, 4 + i, none⟩ (.slice a6 xs.length c6)) hlw (fun b hb hl => by
                    rw [set_other _ (by omega)]
                    exact (hm6.block b hl (fun e => by have e2 : b = R := e; omega)).1) (fun b hb hl => set_other _ (by omega)) (by rw [HLL.out]; exact hlt) hdv
                  rw [HLL.out] at h2
                  refine ⟨LL ++ [xs], q2, _, by rw [List.length_append, List.length_singleton, HLL.out], ?_, h1, hpb6.to (set_other _ (by have := HPL.out.1; omega)), h2⟩
                  rw [HTT.out]
                  have : 7 - (i + 1) = k := by have := HK.out; omega
                  rw [this]
                generalize xs.length = xn at HNX ⊢
                clear hs6 hm6 hv6 hdv hat6 hpb6 hC p0
                go_wp2_with fail
                go_roundw
                case rel => exact ⟨i + 1, by go_num, by omega, HNX.out⟩
                case measure => simp [intOf]; omega
            · have hi1 : ¬ (i : Int) < 7 := by omega
              have he : i = 7 := by omega
              rw [he, Nat.sub_self, cmb_end] at htot
              rw [htot] at HRN
              have hN : Calls Tryz.prog 49 #[.pointer (some ⟨R, 0, none⟩), .int .i64 16] wr (RdPost wr B R vt T (rdSmall 16 q) isI) := small_c hat.rd 16 (by decide)
              cases hq : rdSmall 16 q with
              | none =>
                rw [hq] at hN
                have HE : Hid (RES = none) := Lib.hid <| by
                  rw [HRN.out]
                  unfold restPkg
                  simp only
                  rw [hq]
                have HM := Lib.hid hat.mv
                replace hN := Lib.hid hN
                clear htot hat hpb hla HT hq hll
                go_wp2_with fail
                refine hN.out.mono ?_
                rintro e w6 ⟨rfl, hm⟩
                exact ⟨rfl, HNO.out HE.out _ (HM.out.trans hm)⟩
              | some y =>
                obtain ⟨n, q2⟩ := y
                have hn16 := rdSmall_le hq
                rw [hq] at hN
                obtain ⟨TF, hTF⟩ : ∃ TF, rdMany (rdText T) n q2 = TF := ⟨_, rfl⟩
                have HTF := Lib.hid hTF
                have HRF : Hid ((TF = none → RES = none) ∧ ∀ fs qf, TF = some (fs, qf) → RES = some (mkPkg nm ev ar ve LL fs, qf)) := Lib.hid <| by
                  have h0 : RES = TF.map (fun x => (mkPkg nm ev ar ve LL x.1, x.2)) := by
                    rw [HRN.out, ← hTF]
                    unfold restPkg
                    simp only
                    rw [hq]
                    simp only
                    cases rdMany (rdText T) n q2 with
                    | none => rfl
                    | some x => rfl
                  exact ⟨fun e => by rw [h0, e]; rfl, fun fs qf e => by rw [h0, e]; rfl⟩
                have HAT := Lib.hid hat
                have HLA := Lib.hid hla
                have HLL : Hid (LL.length = 7) := Lib.hid (by omega)
                have HDW : Hid (DD + 1 ≤ wr.heap.size) := Lib.hid (by have := hpb.lt; have := HPL.out.1; omega)
                have hRD : R < DD := Nat.lt_of_lt_of_le hat.rl (by rw [HZ.out]; exact HPL.out.2)
                replace hN := Lib.hid hN
                obtain ⟨wL, rfl⟩ : ∃ x : World, x = wr := ⟨_, rfl⟩
                clear htot hat hpb hla HT hq hll hTF HRN HTOT he hlt hin
                go_wp2_with fail
                refine hN.out.mono ?_
                rintro e w6 ⟨⟨v6, rfl, hv6⟩, hs6, hm6⟩
                have hv6' : v6 = .int .i64 (n : Int) := hv6
                subst hv6'
                have HA6 := Lib.hid (HAT.out.call hs6 hm6)
                have HL6 : Hid (ListsAt w6 (DD + 1) LL v) := HLA.out.keep fun b hb hl => (hm6.block b hl (fun e => by have e2 : b = R := e; omega)).1
                have HW6 : Hid (DD + 1 ≤ w6.heap.size) := Nat.le_trans HDW.out hm6.size
                obtain ⟨i0, hi, hz0, hz1, hz2⟩ := info_parts info9s
                clear hs6 hm6 hv6 hN HAT HLA HDW
                go_wp2_with fail
                go_loopw [28] (fun vi wr => ∃ i : Nat, vi = .int .i64 i ∧ i ≤ n ∧ Hid (∃ fs qf af cf, fs.length = i ∧ TF = cmb fs (rdMany (rdText T) (n - i) qf) ∧ RdAt w wr B R vt qf T Z DD [.string ⟨#[]⟩, .string ⟨#[]⟩, .string ⟨#[]⟩, .string ⟨#[]⟩, .slice none 0 0, .slice none 0 0, .slice none 0 0, .slice none 0 0, .slice none 0 0, .slice none 0 0, .slice none 0 0, .slice none 0 0] (pkgCells nm ev ar ve v (.slice af i cf)) 45 ∧ wr.ownsRow w6.heap.size 9 1 (.slice af i cf) i (fs.map .string) ∧ (∀ s ∈ fs, s.size ≤ maxLen) ∧ w6.heap.size ≤ wr.heap.size ∧ ∀ b, DD + 1 ≤ b → b < w6.heap.size → wr.heap[b]? = w6.heap[b]?)) (fun vi _ => n - (intOf vi).toNat)
                case atStart =>
                  refine ⟨0, rfl, Nat.zero_le _, [], q2, none, 0, rfl, ?_, HA6.out, World.ownsRow_nil _ _ _ _, fun s hs => (by cases hs), Nat.le_refl _, fun b _ _ => rfl⟩
                  rw [cmb_nil]
                  exact HTF.out.symm
                case round =>
                  obtain ⟨i, rfl, hin, HT⟩ := hrel
                  obtain ⟨fs, qf, af, cf, hfl, htot, hat, hrow, hfsz, hsz, hkp⟩ := HT.out
                  by_cases hlt : i < n
                  · have hi1 : (i : Int) < (n : Int) := by omega
                    go_upto_region 9 with fail
                    have hC : ∀ W, Below wr.heap.size wr W → Calls Tryz.prog 51 #[.pointer (some ⟨R, 0, none⟩)] W (RdPost W B R vt T (rdText T qf) isS) := fun W hb => text_rd (hat.rd.below hb)
                    obtain ⟨k, hk⟩ : ∃ k, n - i = k + 1 := ⟨n - i - 1, by omega⟩
                    rw [hk] at htot
                    have HSW : Hid (∀ W : World, W.heap[DD]? = wr.heap[DD]? → W.cell? ⟨DD, 11, none⟩ = some (.slice af i cf) ∧ W.frozen? ⟨DD, 11, none⟩ = false) := Lib.hid fun W hW => ⟨(hat.d.to hW).cell (j := 11) rfl, (hat.d.to hW).frozen 11⟩
                    have HDL : Hid (DD < wr.heap.size) := hat.d.lt
                    cases hq3 : rdText T qf with
                    | none =>
                      have HE : Hid (RES = none) := Lib.hid (HRF.out.1 (by rw [htot, cmb_stop hq3]))
                      have HM := Lib.hid hat.mv
                      rw [hq3] at hC
                      replace hC := Lib.hid hC
                      clear htot hat hrow hfsz hkp hsz HT hq3 hk hfl
                      refine wp_region_ord (fun W => W.heap[DD]? = wr.heap[DD]?) 7 [(true, 0), (true, 1), (true, 2), (false, 3), (false, 4), (false, 5), (false, 6), (false, 7)] (by kernel_rfl) (by kernel_rfl) (fun _ _ d _ _ h => by cases d <;> exact h) rfl ?_
                      intro wd hwd hS
                      simp only [ordOps, List.map_cons, List.map_nil, Array.getD_eq_getD_getElem?, List.getElem?_toArray, List.getElem?_cons_succ, List.getElem?_cons_zero, Option.getD_some]
                      iterate 3 (refine wpOrd_q rfl _ (fun w' hS' K hK => (by obtain ⟨x0, x1⟩ := HSW.out w' hS'; clear hS'; go_simp; exact hK)) (fun K hK => ?_); go_simp; refine hK _ ?_; clear hK K)
                      have HBd : Hid (Below wr.heap.size wr wd) := by rw [hwd.out]; exact below_dr1 (Below.refl _ _)
                      clear hS hwd
                      refine wpOrd_l rfl (fun K hK => ?_)
                      go_simp
                      refine (hC.out wd HBd.out).mono ?_
                      rintro e w7 ⟨rfl, hm⟩
                      exact ⟨rfl, HNO.out HE.out _ ((HM.out.then HBd.out).trans hm)⟩
                    | some y =>
                      obtain ⟨s, q3⟩ := y
                      rw [cmb_step hq3] at htot
                      rw [hq3] at hC
                      have HTT := Lib.hid htot
                      have HAT := Lib.hid hat
                      have HROW := Lib.hid hrow
                      have HFS := Lib.hid hfsz
                      have HKP := Lib.hid hkp
                      have HFL := Lib.hid hfl
                      have HK := Lib.hid hk
                      have HSM : Hid (s.size ≤ maxLen) := hat.rd.tsz s (rdText_mem hq3)
                      replace hC := Lib.hid hC
                      clear htot hat hrow hfsz hkp HT hq3 hk hfl
                      refine wp_region_ord (fun W => W.heap[DD]? = wr.heap[DD]?) 7 [(true, 0), (true, 1), (true, 2), (false, 3), (false, 4), (false, 5), (false, 6), (false, 7)] (by kernel_rfl) (by kernel_rfl) (fun _ _ d _ _ h => by cases d <;> exact h) rfl ?_
                      intro wd hwd hS
                      simp only [ordOps, List.map_cons, List.map_nil, Array.getD_eq_getD_getElem?, List.getElem?_toArray, List.getElem?_cons_succ, List.getElem?_cons_zero, Option.getD_some]
                      iterate 3 (refine wpOrd_q rfl _ (fun w' hS' K hK => (by obtain ⟨x0, x1⟩ := HSW.out w' hS'; clear hS'; go_simp; exact hK)) (fun K hK => ?_); go_simp; refine hK _ ?_; clear hK K)
                      have HBd : Hid (Below wr.heap.size wr wd) := by rw [hwd.out]; exact below_dr1 (Below.refl _ _)
                      clear hS hwd
                      refine wpOrd_l rfl (fun K hK => ?_)
                      go_simp
                      refine (hC.out wd HBd.out).mono ?_
                      rintro e w7 ⟨⟨v7, rfl, hv7⟩, hs7, hm7⟩
                      have hv7' : v7 = .string s := hv7
                      subst hv7'
                      have HA7 := Lib.hid ((HAT.out.below HBd.out).call hs7 hm7)
                      have HK7 : Hid (∀ b, DD ≤ b → b < wr.heap.size → w7.heap[b]? = wr.heap[b]?) := Lib.hid fun b hb hl => by
                        rw [(hm7.block b (Nat.lt_of_lt_of_le hl HBd.out.size) (fun e => by have e2 : b = R := e; omega)).1, HBd.out.block b hl]
                      have HZ7 : Hid (wr.heap.size ≤ w7.heap.size) := Nat.le_trans HBd.out.size hm7.size
                      clear hs7 hm7 hv7
                      go_simp
                      refine hK _ _ ⟨fun _ => HK7.out DD (Nat.le_refl _) HDL.out, ?_⟩
                      clear hK K
                      obtain ⟨w8, e8⟩ : ∃ w8, w7.alloc (.cells #[.string s] 9) = w8 := ⟨_, rfl⟩
                      have HB8 : Hid (Below w7.heap.size w7 w8 ∧ w8.heap[w7.heap.size]? = some (.cells #[.string s] 9 (0, 0))) := by
                        rw [← e8]
                        exact ⟨below1 _ _, heap_alloc_new w7 _⟩
                      have HK8 : Hid (∀ b, DD ≤ b → b < wr.heap.size → w8.heap[b]? = wr.heap[b]?) := Lib.hid fun b hb hl => by
                        rw [HB8.out.1.block b (Nat.lt_of_lt_of_le hl HZ7.out), HK7.out b hb hl]
                      refine wpOrd_l rfl (fun K hK => ?_)
                      go_simp
                      refine hK _ _ ⟨fun _ => HK8.out DD (Nat.le_refl _) HDL.out, ?_⟩
                      clear hK K e8
                      have HR8 : Hid (w8.ownsRow w6.heap.size 9 1 (.slice af i cf) i (fs.map .string)) := Lib.hid (ownsRow_to HROW.out fun g hg => HK8.out g (by have := (HROW.out.lt g hg).1; have := HW6.out; omega) (HROW.out.lt g hg).2)
                      have HZ8 : Hid (w6.heap.size ≤ w8.heap.size) := Nat.le_trans hsz (Nat.le_trans HZ7.out HB8.out.1.size)
                      refine wpOrd_l rfl (fun K hK => ?_)
                      refine wp_append_lies _ (.tmp 31) (.tmp 34) 43 rfl w6.heap.size 9 i0 (.string ⟨#[]⟩) 1 16 Tryz.underlying43 hi hz0 hz1 hz2 rfl (by decide) (.slice af i cf) i (fs.map .string) rfl HR8.out ⟨w7.heap.size, 0, none⟩ 1 1 [.string s] rfl rfl (World.news_of_block (cs := #[.string s]) (t := 9) (fr := (0, 0)) HB8.out.2) (by intro u hu; simp at hu; subst hu; rfl) (by decide) (by unfold maxLen; omega) (by omega) HZ8.out _ rfl ?_
                      intro g9 c9 w9 hown9 hgrow9 hat9 hlt9
                      have HLOW : Hid (∀ b, b < w6.heap.size → w9.heap[b]? = w8.heap[b]?) := Lib.hid fun b hb => hgrow9.block b (Nat.lt_of_lt_of_le hb HZ8.out) (fun e => by have := (HR8.out.lt b e.symm).1; omega)
                      have HD9 : Hid (w9.heap[DD]? = wr.heap[DD]?) := (HLOW.out DD (by have := HW6.out; omega)).trans (HK8.out DD (Nat.le_refl _) HDL.out)
                      have HA9 : Hid (RdAt w w9 B R vt q3 T Z DD [.string ⟨#[]⟩, .string ⟨#[]⟩, .string ⟨#[]⟩, .string ⟨#[]⟩, .slice none 0 0, .slice none 0 0, .slice none 0 0, .slice none 0 0, .slice none 0 0, .slice none 0 0, .slice none 0 0, .slice none 0 0] (pkgCells nm ev ar ve v (.slice af i cf)) 45) := by
                        have h1 := HA7.out.below HB8.out.1
                        have hb9 : Below w6.heap.size w8 w9 := ⟨hgrow9.os, hgrow9.tape, hgrow9.output, hgrow9.size, HLOW.out⟩
                        have hlt1 := h1.ld
                        have hlt2 := HW6.out
                        have hrl := h1.rl
                        have hvl := h1.vl
                        have hz := HZ.out
                        have hpl := HPL.out.2
                        have hb0 : Below w.heap.size w8 w9 := hb9.mono (by omega)
                        exact ⟨h1.rd.low hrl hvl hb0, h1.mv.low hb0, h1.z.to (HLOW.out Z (by omega)), h1.d.to (HLOW.out DD (by omega)), h1.lz, h1.ld, h1.ne, hrl, hvl⟩
                      have HEND : Hid (∃ fs qf af cf, fs.length = i + 1 ∧ TF = cmb fs (rdMany (rdText T) (n - (i + 1)) qf) ∧ RdAt w (w9.setCell ⟨DD, 11, none⟩ (.slice (some ⟨g9, 0, none⟩) (i + 1) c9)) B R vt qf T Z DD [.string ⟨#[]⟩, .string ⟨#[]⟩, .string ⟨#[]⟩, .string ⟨#[]⟩, .slice none 0 0, .slice none 0 0, .slice none 0 0, .slice none 0 0, .slice none 0 0, .slice none 0 0, .slice none 0 0, .slice none 0 0] (pkgCells nm ev ar ve v (.slice af (i + 1) cf)) 45 ∧ (w9.setCell ⟨DD, 11, none⟩ (.slice (some ⟨g9, 0, none⟩) (i + 1) c9)).ownsRow w6.heap.size 9 1 (.slice af (i + 1) cf) (i + 1) (fs.map .string) ∧ (∀ s ∈ fs, s.size ≤ maxLen) ∧ w6.heap.size ≤ (w9.setCell ⟨DD, 11, none⟩ (.slice (some ⟨g9, 0, none⟩) (i + 1) c9)).heap.size ∧ ∀ b, DD + 1 ≤ b → b < w6.heap.size → (w9.setCell ⟨DD, 11, none⟩ (.slice (some ⟨g9, 0, none⟩) (i + 1) c9)).heap[b]? = w6.heap[b]?) := Lib.hid <| by
                        refine ⟨fs ++ [s], q3, some ⟨g9, 0, none⟩, c9, by rw [List.length_append, List.length_singleton, HFL.out], ?_, HA9.out.setD 11 _, ?_, ?_, ?_, ?_⟩
                        · rw [HTT.out]
                          have : n - (i + 1) = k := by have := HK.out; omega
                          rw [this]
                        · rw [List.map_append]
                          exact ownsRow_to hown9 fun g hg => set_other _ (by have := (hown9.lt g hg).1; have := HW6.out; omega)
                        · intro t ht
                          rcases List.mem_append.1 ht with ht | ht
                          · exact HFS.out t ht
                          · rw [List.mem_singleton] at ht
                            rw [ht]
                            exact HSM.out
                        · rw [set_size]
                          exact Nat.le_trans HZ8.out hgrow9.size
                        · intro b hb hl
                          rw [set_other _ (by omega), HLOW.out b hl, HK8.out b (by omega) (Nat.lt_of_lt_of_le hl hsz), HKP.out b hb hl]
                      clear hown9 hgrow9 hat9 hlt9
                      refine hK _ _ ⟨fun _ => HD9.out, ?_⟩
                      clear hK K
                      refine wpOrd_l rfl (fun K hK => ?_)
                      go_simp
                      refine hK _ _ ⟨fun _ => HD9.out, ?_⟩
                      clear hK K
                      obtain ⟨y0, y1⟩ := HSW.out w9 HD9.out
                      refine wpOrd_l rfl (fun K hK => ?_)
                      go_simp
                      refine hK _ _ ⟨fun h => absurd rfl h, ?_⟩
                      clear hK K
                      refine wpOrd_nil ?_
                      clear y0 y1
                      go_wp2_with fail
                      go_roundw
                      case rel => exact ⟨i + 1, by go_num, by omega, HEND.out⟩
                      case measure => simp [intOf]; omega
                  · have hi1 : ¬ (i : Int) < (n : Int) := by omega
                    have he : i = n := by omega
                    rw [he, Nat.sub_self, cmb_end] at htot
                    rw [he] at hat hrow hfl
                    have HE := Lib.hid (HRF.out.2 fs qf htot)
                    obtain ⟨nn, hnn⟩ : ∃ nn : Fin 7 → Nat, (fun j : Fin 7 => (LL.getD j.val []).length) = nn := ⟨_, rfl⟩
                    obtain ⟨va, vc, hvv⟩ : ∃ (va : Fin 7 → Option Addr) (vc : Fin 7 → Nat), v = fun j => .slice (va j) (nn j) (vc j) := by
                      have h1 : ∀ j : Fin 7, ∃ a c, v j = .slice a (nn j) c := fun j => by
                        obtain ⟨a, c, e, _⟩ := HL6.out.done j (by rw [HLL.out]; exact j.isLt)
                        rw [← hnn]
                        exact ⟨a, c, e⟩
                      exact ⟨fun j => (h1 j).choose, fun j => (h1 j).choose_spec.choose, funext fun j => (h1 j).choose_spec.choose_spec⟩
                    subst hvv
                    have y0 : wr.cell? ⟨DD, 0, none⟩ = some (.string nm) := hat.d.cell (j := 0) rfl
                    have y1 : wr.cell? ⟨DD, 1, none⟩ = some (.string ev) := hat.d.cell (j := 1) rfl
                    have y2 : wr.cell? ⟨DD, 2, none⟩ = some (.string ar) := hat.d.cell (j := 2) rfl
                    have y3 : wr.cell? ⟨DD, 3, none⟩ = some (.string ve) := hat.d.cell (j := 3) rfl
                    have y4 : wr.cell? ⟨DD, 4, none⟩ = some (.slice (va 0) (nn 0) (vc 0)) := hat.d.cell (j := 4) rfl
                    have y5 : wr.cell? ⟨DD, 5, none⟩ = some (.slice (va 1) (nn 1) (vc 1)) := hat.d.cell (j := 5) rfl
                    have y6 : wr.cell? ⟨DD, 6, none⟩ = some (.slice (va 2) (nn 2) (vc 2)) := hat.d.cell (j := 6) rfl
                    have y7 : wr.cell? ⟨DD, 7, none⟩ = some (.slice (va 3) (nn 3) (vc 3)) := hat.d.cell (j := 7) rfl
                    have y8 : wr.cell? ⟨DD, 8, none⟩ = some (.slice (va 4) (nn 4) (vc 4)) := hat.d.cell (j := 8) rfl
                    have y9 : wr.cell? ⟨DD, 9, none⟩ = some (.slice (va 5) (nn 5) (vc 5)) := hat.d.cell (j := 9) rfl
                    have y10 : wr.cell? ⟨DD, 10, none⟩ = some (.slice (va 6) (nn 6) (vc 6)) := hat.d.cell (j := 10) rfl
                    have y11 : wr.cell? ⟨DD, 11, none⟩ = some (.slice af n cf) := hat.d.cell (j := 11) rfl
                    have z0 := hat.z.cell (j := 0) rfl
                    have u0 := hat.z.frozen 0
                    have z1 := hat.z.cell (j := 1) rfl
                    have u1 := hat.z.frozen 1
                    have z2 := hat.z.cell (j := 2) rfl
                    have u2 := hat.z.frozen 2
                    have z3 := hat.z.cell (j := 3) rfl
                    have u3 := hat.z.frozen 3
                    have z4 := hat.z.cell (j := 4) rfl
                    have u4 := hat.z.frozen 4
                    have z5 := hat.z.cell (j := 5) rfl
                    have u5 := hat.z.frozen 5
                    have z6 := hat.z.cell (j := 6) rfl
                    have u6 := hat.z.frozen 6
                    have z7 := hat.z.cell (j := 7) rfl
                    have u7 := hat.z.frozen 7
                    have z8 := hat.z.cell (j := 8) rfl
                    have u8 := hat.z.frozen 8
                    have z9 := hat.z.cell (j := 9) rfl
                    have u9 := hat.z.frozen 9
                    have z10 := hat.z.cell (j := 10) rfl
                    have u10 := hat.z.frozen 10
                    have z11 := hat.z.cell (j := 11) rfl
                    have u11 := hat.z.frozen 11
                    obtain ⟨w9, e9⟩ : ∃ w9, ((((((((((((wr.setCell ⟨Z, 0, none⟩ (.string nm)).setCell ⟨Z, 1, none⟩ (.string ev)).setCell ⟨Z, 2, none⟩ (.string ar)).setCell ⟨Z, 3, none⟩ (.string ve)).setCell ⟨Z, 4, none⟩ (.slice (va 0) (nn 0) (vc 0))).setCell ⟨Z, 5, none⟩ (.slice (va 1) (nn 1) (vc 1))).setCell ⟨Z, 6, none⟩ (.slice (va 2) (nn 2) (vc 2))).setCell ⟨Z, 7, none⟩ (.slice (va 3) (nn 3) (vc 3))).setCell ⟨Z, 8, none⟩ (.slice (va 4) (nn 4) (vc 4))).setCell ⟨Z, 9, none⟩ (.slice (va 5) (nn 5) (vc 5))).setCell ⟨Z, 10, none⟩ (.slice (va 6) (nn 6) (vc 6))).setCell ⟨Z, 11, none⟩ (.slice af n cf)) = w9 := ⟨_, rfl⟩
                    have HA9 : Hid (RdAt w w9 B R vt qf T Z DD [.string nm, .string ev, .string ar, .string ve, .slice (va 0) (nn 0) (vc 0), .slice (va 1) (nn 1) (vc 1), .slice (va 2) (nn 2) (vc 2), .slice (va 3) (nn 3) (vc 3), .slice (va 4) (nn 4) (vc 4), .slice (va 5) (nn 5) (vc 5), .slice (va 6) (nn 6) (vc 6), .slice af n cf] (pkgCells nm ev ar ve (fun j => .slice (va j) (nn j) (vc j)) (.slice af n cf)) 45) := by
                      rw [← e9]
                      exact hat.fill12
                    have HSM : Hid (∀ b, DD + 1 ≤ b → w9.heap[b]? = wr.heap[b]?) := Lib.hid fun b hb => by
                      rw [← e9]
                      exact fill12_other (by have := HPL.out.2; omega) _ _ _ _ _ _ _ _ _ _ _ _
                    have HPV : Hid (PkgV w9 (New w.heap.size w9) (mkPkg nm ev ar ve LL fs) (fun i => .slice (va i) ((mkPkg nm ev ar ve LL fs).n i) (vc i)) (.slice af n cf)) := Lib.hid <| by
                      have hz := HZ.out
                      have hpl := HPL.out.2
                      have hl9 := HL6.out.keep (w' := w9) fun b hb hl => (HSM.out b hb).trans (hkp b hb hl)
                      subst hnn
                      refine ⟨HN0.out, HN1.out, HN2.out, HN3.out, fun j => ?_, ?_⟩
                      · exact (hl9.done j (by rw [HLL.out]; exact j.isLt)).keep (fun b hb => ⟨by rw [hz]; have := hb.1; omega, hb.2⟩) (fun _ _ _ => rfl)
                      · refine ⟨af, cf, by show Value.slice af n cf = .slice af fs.length cf; rw [hfl], hfsz, by show fs.length * 16 ≤ _; omega, fun hne => ?_⟩
                        rcases hrow.2 with ⟨e, h0⟩ | ⟨g, cap, cur, e, hg, hatg, hcap, _, hszg, htake⟩
                        · exfalso
                          apply hne
                          exact List.eq_nil_of_length_eq_zero (by show fs.length = 0; omega)
                        · injection e with e1 e2 e3
                          have hg9 : w9.heap[g]? = some (.cells cur 9 (0, 0)) := (HSM.out g (by have := HW6.out; omega)).trans hatg
                          refine ⟨g, 0, e1, ⟨by rw [hz]; have := HW6.out; omega, _, _, hg9⟩, fun k hk => ?_⟩
                          have hk2 : k < fs.length := hk
                          have h5 : (cur.toList.take (n * 1))[k]? = some (.string fs[k]) := by
                            rw [htake]
                            simp [hk2]
                          rw [List.getElem?_take_of_lt (by omega)] at h5
                          rw [Nat.zero_add]
                          exact cell_of hg9 (by rw [← Array.getElem?_toList]; exact h5)
                    have HFIN : Hid (POST (.returned (.agg #[.string nm, .string ev, .string ar, .string ve, .slice (va 0) (nn 0) (vc 0), .slice (va 1) (nn 1) (vc 1), .slice (va 2) (nn 2) (vc 2), .slice (va 3) (nn 3) (vc 3), .slice (va 4) (nn 4) (vc 4), .slice (va 5) (nn 5) (vc 5), .slice (va 6) (nn 6) (vc 6), .slice af n cf])) w9) := Lib.hid <| by
                      rw [← HPO.out, HE.out]
                      refine ⟨⟨_, rfl, va, vc, af, n, cf, ?_, HPV.out⟩, HA9.out.rd, HA9.out.mv⟩
                      subst hnn
                      rfl
                    have x0 := HA9.out.z.cell (j := 0) rfl
                    have x1 := HA9.out.z.cell (j := 1) rfl
                    have x2 := HA9.out.z.cell (j := 2) rfl
                    have x3 := HA9.out.z.cell (j := 3) rfl
                    have x4 := HA9.out.z.cell (j := 4) rfl
                    have x5 := HA9.out.z.cell (j := 5) rfl
                    have x6 := HA9.out.z.cell (j := 6) rfl
                    have x7 := HA9.out.z.cell (j := 7) rfl
                    have x8 := HA9.out.z.cell (j := 8) rfl
                    have x9 := HA9.out.z.cell (j := 9) rfl
                    have x10 := HA9.out.z.cell (j := 10) rfl
                    have x11 := HA9.out.z.cell (j := 11) rfl
                    clear hat hrow hfl hfsz hkp hsz htot HT hnn he hlt hin HPV HRF HTF HA6 HL6
                    go_wp2_with fail
                    refine bodyPost_ret (v := .agg #[.string nm, .string ev, .string ar, .string ve, .slice (va 0) (nn 0) (vc 0), .slice (va 1) (nn 1) (vc 1), .slice (va 2) (nn 2) (vc 2), .slice (va 3) (nn 3) (vc 3), .slice (va 4) (nn 4) (vc 4), .slice (va 5) (nn 5) (vc 5), .slice (va 6) (nn 6) (vc 6), .slice af n cf]) (by simp [results, Tryz.results53, go_sem, x0, x1, x2, x3, x4, x5, x6, x7, x8, x9, x10, x11]) rfl ?_
                    exact HFIN.out
end Go.Proofs.YtbdankpkdhhlmaaGreat
