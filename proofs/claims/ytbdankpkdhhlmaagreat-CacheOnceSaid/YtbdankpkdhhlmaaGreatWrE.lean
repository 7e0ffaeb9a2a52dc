/-
  A pool is laid into bytes: the walk. Helper text; the conditions are those typed.
-/
import Derived.Test.YtbdankpkdhhlmaaGreatCEnc
import Derived.Lib.AppendStr
import Derived.Lib.SlBytesConst
namespace Go.Proofs.YtbdankpkdhhlmaaGreat
set_option linter.unusedVariables false
set_option linter.unusedSimpArgs false
open Go.RowKit Go.Maps

theorem WrS.start (w : World) (B : Nat) (hB : B ≤ w.heap.size) : WrS ((w.alloc (.map #[] 0)).alloc (.cells #[.slice none 0 0, .map (some w.heap.size), .slice none 0 0] 74)) B (w.heap.size + 1) [] (MW (w.heap.size + 1) w.heap.size (.slice none 0 0) (.slice none 0 0)) := by
  refine ⟨w.heap.size, .slice none 0 0, .slice none 0 0, ⟨?_, World.ownsRow_nil _ _ _ _, World.ownsRow_nil _ _ _ _, ?_, by omega, hB, by omega, (fun e => by cases e), (fun e => by cases e), (fun e => by cases e), (fun e => by cases e), (fun b e => by cases e)⟩, (fun t ht => by cases ht), by decide, rfl⟩
  · have h1 := boxN_alloc (w.alloc (.map #[] 0)) [.slice none 0 0, .map (some w.heap.size), .slice none 0 0] 74
    rw [World.size_alloc] at h1
    exact h1
  · refine ((MapAt.made Tryz.prog 9 w).block ((below1 _ _).block _ (by simp))).congr fun u => ?_
    cases u with
    | string s =>
      rw [numF_str, if_neg (by show s ∉ ([] : List ByteArray); simp)]
    | _ => rfl
theorem info45 : (Tryz.prog.info? 45).map (fun i => (i.zero, i.size, i.bytes)) = some (some (.agg #[.string ⟨#[]⟩, .string ⟨#[]⟩, .string ⟨#[]⟩, .string ⟨#[]⟩, .slice none 0 0, .slice none 0 0, .slice none 0 0, .slice none 0 0, .slice none 0 0, .slice none 0 0, .slice none 0 0, .slice none 0 0]), 12, 256) := by kernel_rfl
theorem magic_at (w : World) : BytesAt (w.alloc (.cells #[.int .u8 99, .int .u8 104, .int .u8 97, .int .u8 110, .int .u8 100, .int .u8 108, .int .u8 101, .int .u8 114, .int .u8 49] 5 (9, 10))) (some ⟨w.heap.size, 0, none⟩) magicB := by
  refine .inr ⟨w.heap.size, 0, rfl, fun i hi => ?_⟩
  have hi9 : i < 9 := hi
  rw [Nat.zero_add, World.cell?_alloc_mark]
  match i, hi9 with
  | 0, _ | 1, _ | 2, _ | 3, _ | 4, _ | 5, _ | 6, _ | 7, _ | 8, _ => rfl
theorem strCells_bytes (s : ByteArray) : Lib.strCells s = Lib.byteCells s.data.toList := by
  unfold Lib.strCells Lib.byteCells
  rfl
theorem OwnB.base {w0 w1 w2 : World} {v : Value} {l : List UInt8} (h : OwnB w1 v l w2) (hb : Below w0.heap.size w0 w1) : OwnB w0 v l w2 := ⟨ownsRow_lo h.1 hb.size, below_tr hb h.2⟩
theorem row_len {w : World} {B : Nat} {a : Option Addr} {n c : Nat} {l : List UInt8} (h : w.ownsRow B 5 1 (.slice a n c) l.length (Lib.byteCells l)) : l.length = n := by
  obtain ⟨a2, c2, e, _⟩ := row_bytes h
  injection e with _ e _
  exact e.symm
theorem row_bytes2 {w : World} {B : Nat} {a : Option Addr} {n c : Nat} {l : List UInt8} (h : w.ownsRow B 5 1 (.slice a n c) l.length (Lib.byteCells l)) : BytesAt w a l := by
  obtain ⟨a2, c2, e, hb⟩ := row_bytes h
  injection e with e _ _
  rw [e]
  exact hb
/-- Put, its slice written out. -/
theorem put_at {w : World} {a : Option Addr} {l : List UInt8} (h : BytesAt w a l) {n : Nat} (hn : l.length = n) (cap x : Nat) (hx : x < 18446744073709551616) (hl : l.length + 10 ≤ 140737488355328) :
    Calls Tryz.prog 31 #[.slice a n cap, .int .u64 (x : Int)] w fun e w' => ∃ a' n' c', e = .returned (.slice a' n' c') ∧ (l ++ Lib.uvarint x).length = n' ∧ OwnB w (.slice a' n' c') (l ++ Lib.uvarint x) w' := by
  subst hn
  refine (put_in h cap x hx hl).mono ?_
  rintro e w' ⟨v, rfl, ho⟩
  obtain ⟨a', c', e2, _⟩ := row_bytes ho.1
  exact ⟨a', _, c', by rw [e2], rfl, e2 ▸ ho⟩
/-- What Write leaves. -/
def WritePost (w : World) (l : List UInt8) (e : Ending) (w' : World) : Prop := ∃ v, e = .returned (.tuple #[v, .int .i64 0]) ∧ OwnB w v l w'
/-- What is asked of what the pool has. -/
structure CanW (kd : Int) (rs : List RepoH) (ks : List KeptT) : Prop where
  rlen : rs.length ≤ 8
  klen : ks.length ≤ 200
  at_ : ∀ k ∈ ks, k.at_ < 9223372036854775808
  form : ∀ k ∈ ks, ∀ i j, formB (k.pkg.deps i j) = true
  prio : ∀ r ∈ rs, -9223372036854775808 ≤ r.prio ∧ r.prio ≤ 9223372036854775807
  name : ∀ r ∈ rs, r.name.size ≤ maxLen
  kind : 0 ≤ kd ∧ kd < 9223372036854775808
  toks : (tokPool rs ks).length ≤ 1073741824
  len : (encB kd.toNat (tokPool rs ks)).length ≤ 70368744177664

set_option maxHeartbeats 8000000 in
set_option maxRecDepth 100000 in
theorem write_c {w : World} {B : Nat} {role : Nat → Role} {P M : Nat} {vr va : Value} {lv : ByteArray → Value} {kd : Int} {rs : List RepoH} {ks : List KeptT} (h : PoolIn w B role P M vr va lv kd rs ks (ks.map fun k => k.pkg.name)) (hc : CanW kd rs ks) :
    Calls Tryz.prog 12 #[.pointer (some ⟨P, 0, none⟩)] w (WritePost w (encB kd.toNat (tokPool rs ks))) := by
  have hmm := @run_makeMap Tryz.prog
  obtain ⟨i0, hi, hz0, hz1, hz2⟩ := info_parts info45
  obtain ⟨w2, e2⟩ : ∃ w2, (w.alloc (.map #[] 0)).alloc (.cells #[.slice none 0 0, .map (some w.heap.size), .slice none 0 0] 74) = w2 := ⟨_, rfl⟩
  have HS2 := WrS.start w w.heap.size (Nat.le_refl _)
  rw [e2] at HS2
  have hsz2 : w2.heap.size = w.heap.size + 2 := by rw [← e2]; simp
  obtain ⟨w3, e3⟩ : ∃ w3, w2.alloc (.map #[] 0) = w3 := ⟨_, rfl⟩
  have HG3 := GrpIn.start w2 w.heap.size (by omega) (fun _ => .slice none 0 0)
  rw [e3] at HG3
  have hb2 : Below w.heap.size w w2 := by rw [← e2]; exact below2 _ _ _
  have hb3 : Below w2.heap.size w2 w3 := by rw [← e3]; exact below1 _ _
  have HB3 : Hid (Below w.heap.size w w3) := below_tr hb2 hb3
  have HS3 := Lib.hid (HS2.below hb3)
  replace HG3 := Lib.hid HG3
  have HSZ : Hid (w3.heap.size = w.heap.size + 3) := Lib.hid (by rw [← e3, World.size_alloc, hsz2])
  rw [hsz2] at HG3
  obtain ⟨H, hH⟩ : ∃ H, w.heap.size = H := ⟨_, rfl⟩
  rw [hH] at HS3 HG3 e2
  obtain ⟨POST, hPOST⟩ : ∃ POST, WritePost w (encB kd.toNat (tokPool rs ks)) = POST := ⟨_, rfl⟩
  rw [hPOST]
  have HPOST := Lib.hid hPOST
  have HH := Lib.hid h
  have HC := Lib.hid hc
  have HHE := Lib.hid hH
  have hL := len_c (h.below HB3.out)
  obtain ⟨n, hn⟩ : ∃ n, ks.length = n := ⟨_, rfl⟩
  rw [hn] at hL
  have hn200 : n ≤ 200 := by rw [← hn]; exact hc.klen
  have HN := Lib.hid hn
  have HL := Lib.hid hL
  have HXL : Hid (∀ b, MW (H + 1) H (.slice none 0 0) (.slice none 0 0) b → b = H + 1 ∨ b = H) := Lib.hid fun b hb => by
    rcases hb with e | e | e | e
    · exact .inl e
    · exact .inr e
    · cases e
    · cases e
  generalize MW (H + 1) H (.slice none 0 0) (.slice none 0 0) = X at HS3 HXL
  clear HS2 hb2 hb3 h hc hL hn hPOST
  have hsimp : H + 1 + 1 = H + 2 := rfl
  go_enter Tryz.func12, Tryz.ntmps12
  go_upto_region 5 with fail
  go_wp2_with fail
  refine HL.out.mono ?_
  rintro e w4 ⟨rfl, hw4⟩
  subst hw4
  clear HL e2 e3
  go_wp2_with fail
  go_loopw [27] (fun vi wr => ∃ i : Nat, vi = .int .i64 i ∧ i ≤ n ∧ Hid (∃ C lvv, GrpIn wr H (H + 2) C lvv (ks.take i) ∧ MMv (fun b => b = H + 2) w3 (GB (H + 2) lvv (ks.take i)) wr ∧ ∀ b, C b → w3.heap.size ≤ b)) (fun vi _ => n - (intOf vi).toNat)
  case atStart =>
    refine ⟨0, rfl, Nat.zero_le _, _, _, HG3.out, ⟨rfl, rfl, rfl, Nat.le_refl _, fun b _ hb => ⟨rfl, fun e => ?_⟩⟩, fun b hb => hb.elim⟩
    rcases e with e | ⟨i, hi, _⟩
    · exact hb e
    · exact hi rfl
  case round =>
    obtain ⟨i, rfl, hin, HT⟩ := hrel
    obtain ⟨C, lvv, hg, hm, hCw⟩ := HT.out
    have HCW := Lib.hid hCw
    clear hCw
    by_cases hlt : i < n
    · have hi1 : (i : Int) < (n : Int) := by omega
      have hik : i < ks.length := by have := HN.out; omega
      have hpool : PoolIn wr B role P M vr va lv kd rs ks (ks.map fun k => k.pkg.name) := HH.out.keep (Nat.le_trans HB3.out.size hm.size) (fun b hb => by
        have h1 := HH.out.hi b hb
        have h2 := HHE.out
        rw [(hm.block b (Nat.lt_of_lt_of_le h1 HB3.out.size) (by omega)).1, HB3.out.block b h1])
      have hC := packageF_c hpool HC.out.klen hik rfl rfl
      have htk : ks.take (i + 1) = ks.take i ++ [ks[i]] := by rw [List.take_add_one, List.getElem?_eq_getElem hik, Option.toList_some]
      have hatk := HC.out.at_ ks[i] (List.getElem_mem hik)
      have htl : (ks.take i).length ≤ 200 := by rw [List.length_take]; omega
      obtain ⟨k, hk⟩ : ∃ k, ks[i] = k := ⟨_, rfl⟩
      rw [hk] at hC htk hatk
      generalize hKS : ks.take i = KS at hg hm htk htl
      have HTK := Lib.hid htk
      have HMM := Lib.hid hm
      have HG := Lib.hid hg
      have HKS := Lib.hid hKS
      obtain ⟨pk, hpk⟩ : ∃ pk, k.pkg = pk := ⟨_, rfl⟩
      obtain ⟨at_, hat⟩ : ∃ at_, k.at_ = at_ := ⟨_, rfl⟩
      rw [hpk, hat] at hC
      rw [hat] at hatk
      have HPK := Lib.hid hpk
      have HAT := Lib.hid hat
      replace hC := Lib.hid hC
      clear hpool hk htk hKS hpk hat hg hm HT
      go_wp2_with fail
      refine hC.out.mono ?_
      rintro e w4 ⟨⟨xa, xc, xf, xn, xg, rfl, hpv⟩, hb4⟩
      have HPV := Lib.hid hpv
      have HB4 := Lib.hid hb4
      clear hC hpv hb4
      go_upto_region 9 with fail
      obtain ⟨w5, e5⟩ : ∃ w5, w4.alloc (.cells #[.string pk.name, .string pk.evr, .string pk.arch, .string pk.vendor, .slice (xa 0) (pk.n 0) (xc 0), .slice (xa 1) (pk.n 1) (xc 1), .slice (xa 2) (pk.n 2) (xc 2), .slice (xa 3) (pk.n 3) (xc 3), .slice (xa 4) (pk.n 4) (xc 4), .slice (xa 5) (pk.n 5) (xc 5), .slice (xa 6) (pk.n 6) (xc 6), .slice xf xn xg] 45) = w5 := ⟨_, rfl⟩
      have HB5 : Hid (Below wr.heap.size wr w5 ∧ BoxN w5 w4.heap.size [.string pk.name, .string pk.evr, .string pk.arch, .string pk.vendor, .slice (xa 0) (pk.n 0) (xc 0), .slice (xa 1) (pk.n 1) (xc 1), .slice (xa 2) (pk.n 2) (xc 2), .slice (xa 3) (pk.n 3) (xc 3), .slice (xa 4) (pk.n 4) (xc 4), .slice (xa 5) (pk.n 5) (xc 5), .slice (xa 6) (pk.n 6) (xc 6), .slice xf xn xg] 45) := by
        rw [← e5]
        exact ⟨below_tr HB4.out (below1 _ _), boxN_alloc _ _ _⟩
      obtain ⟨w6, e6⟩ : ∃ w6, w5.alloc (.cells #[.string pk.name, .string pk.evr, .string pk.arch, .string pk.vendor, .slice (xa 0) (pk.n 0) (xc 0), .slice (xa 1) (pk.n 1) (xc 1), .slice (xa 2) (pk.n 2) (xc 2), .slice (xa 3) (pk.n 3) (xc 3), .slice (xa 4) (pk.n 4) (xc 4), .slice (xa 5) (pk.n 5) (xc 5), .slice (xa 6) (pk.n 6) (xc 6), .slice xf xn xg] 45) = w6 := ⟨_, rfl⟩
      have HB6 : Hid (Below wr.heap.size wr w6 ∧ w6.heap[w5.heap.size]? = some (.cells #[.string pk.name, .string pk.evr, .string pk.arch, .string pk.vendor, .slice (xa 0) (pk.n 0) (xc 0), .slice (xa 1) (pk.n 1) (xc 1), .slice (xa 2) (pk.n 2) (xc 2), .slice (xa 3) (pk.n 3) (xc 3), .slice (xa 4) (pk.n 4) (xc 4), .slice (xa 5) (pk.n 5) (xc 5), .slice (xa 6) (pk.n 6) (xc 6), .slice xf xn xg] 45 (0, 0))) := by
        rw [← e6]
        exact ⟨below_tr HB5.out.1 (below1 _ _), heap_alloc_new w5 _⟩
      obtain ⟨al, cl, xs, hcur, hprow⟩ := HG.out.cur at_
      obtain ⟨m, hm⟩ : ∃ m, (pkgsAt KS at_).length = m := ⟨_, rfl⟩
      rw [hm] at hcur hprow
      have hm200 : m ≤ 200 := by have := pkgsAt_len KS at_; omega
      have hlk := (HG.out.below HB5.out.1).look hatk
      rw [hcur] at hlk
      have x0 := HB5.out.2.cell (j := 0) rfl
      have x1 := HB5.out.2.cell (j := 1) rfl
      have x2 := HB5.out.2.cell (j := 2) rfl
      have x3 := HB5.out.2.cell (j := 3) rfl
      have x4 := HB5.out.2.cell (j := 4) rfl
      have x5 := HB5.out.2.cell (j := 5) rfl
      have x6 := HB5.out.2.cell (j := 6) rfl
      have x7 := HB5.out.2.cell (j := 7) rfl
      have x8 := HB5.out.2.cell (j := 8) rfl
      have x9 := HB5.out.2.cell (j := 9) rfl
      have x10 := HB5.out.2.cell (j := 10) rfl
      have x11 := HB5.out.2.cell (j := 11) rfl
      have HROW : Hid (w6.ownsRow H 45 12 (.slice al m cl) m xs) := by
        have h1 := hprow.row
        rw [hm] at h1
        exact ownsRow_below h1 HB6.out.1
      have HCUR := Lib.hid hcur
      have HPR := Lib.hid hprow
      have HM := Lib.hid hm
      have hHw : H ≤ w6.heap.size := by
        have h1 := HHE.out
        have h2 := HB3.out.size
        have h3 := HMM.out.size
        have h4 := HB6.out.1.size
        omega
      clear hcur hprow hm
      have HNX : Hid (∀ g cap w7, w7.ownsRow H 45 12 (.slice (some ⟨g, 0, none⟩) (m + 1) cap) (m + 1) (xs ++ [.string pk.name, .string pk.evr, .string pk.arch, .string pk.vendor, .slice (xa 0) (pk.n 0) (xc 0), .slice (xa 1) (pk.n 1) (xc 1), .slice (xa 2) (pk.n 2) (xc 2), .slice (xa 3) (pk.n 3) (xc 3), .slice (xa 4) (pk.n 4) (xc 4), .slice (xa 5) (pk.n 5) (xc 5), .slice (xa 6) (pk.n 6) (xc 6), .slice xf xn xg]) → w6.grownBy w7 (Value.slice al m cl).ownBlock → ((Value.slice al m cl).ownBlock = some g ∨ g = w6.heap.size) →
          ∃ w8, (Instr.mapUpdate 75 (.map (some (H + 2))) (.int .i64 (at_ : Int)) (.slice (some ⟨g, 0, none⟩) (m + 1) cap)).run Tryz.prog w7 = .ok () w8 ∧ ∃ C' lvv', GrpIn w8 H (H + 2) C' lvv' (ks.take (i + 1)) ∧ MMv (fun b => b = H + 2) w3 (GB (H + 2) lvv' (ks.take (i + 1))) w8 ∧ ∀ b, C' b → w3.heap.size ≤ b) := Lib.hid fun g cap w7 h1 h2 h3 => by
        have e1 := HPK.out
        have e2 := HAT.out
        subst e1
        subst e2
        have h46 : Below w4.heap.size w4 w6 := by
          rw [← e6, ← e5]
          exact below2 _ _ _
        obtain ⟨w8, r1, r2, r3⟩ := HG.out.next (C1 := New wr.heap.size w4) HB6.out.1 k (HPV.out.keep (fun _ h => h) (fun b _ hl => h46.block b hl)) (fun b hb => ⟨hb.1, Nat.lt_of_lt_of_le hb.2.lt h46.size⟩) (by unfold maxLen; omega) hatk HM.out HCUR.out HPR.out h1 h2 h3
        rw [HTK.out]
        exact ⟨w8, r1, _, _, r2, HMM.out.trans r3, fun b hb => by
          rcases hb with hb | hb
          · exact HCW.out b hb
          · exact Nat.le_trans HMM.out.size hb.1⟩
      go_wp2_with (at_builtin; refine wpList_append_lies _ rfl (.tmp 41) (.tmp 43) 38 rfl H 45 i0 _ 12 256 Tryz.underlying38 hi hz0 hz1 hz2 rfl (by decide) (.slice al m cl) m xs rfl HROW.out ⟨w5.heap.size, 0, none⟩ 1 1 [.string pk.name, .string pk.evr, .string pk.arch, .string pk.vendor, .slice (xa 0) (pk.n 0) (xc 0), .slice (xa 1) (pk.n 1) (xc 1), .slice (xa 2) (pk.n 2) (xc 2), .slice (xa 3) (pk.n 3) (xc 3), .slice (xa 4) (pk.n 4) (xc 4), .slice (xa 5) (pk.n 5) (xc 5), .slice (xa 6) (pk.n 6) (xc 6), .slice xf xn xg] rfl rfl (World.news_of_block (cs := #[.string pk.name, .string pk.evr, .string pk.arch, .string pk.vendor, .slice (xa 0) (pk.n 0) (xc 0), .slice (xa 1) (pk.n 1) (xc 1), .slice (xa 2) (pk.n 2) (xc 2), .slice (xa 3) (pk.n 3) (xc 3), .slice (xa 4) (pk.n 4) (xc 4), .slice (xa 5) (pk.n 5) (xc 5), .slice (xa 6) (pk.n 6) (xc 6), .slice xf xn xg]) (t := 45) (fr := (0, 0)) HB6.out.2) (by intro u hu; simp at hu; rcases hu with rfl | rfl | rfl | rfl | rfl | rfl | rfl | rfl | rfl | rfl | rfl | rfl <;> rfl) (by decide) (by unfold maxLen; omega) (by omega) hHw w6.heap.size rfl ?_; intro g7 c7 w7 hown7 hgrow7 hat7 hlt7; obtain ⟨w8, hrun8, h8⟩ := HNX.out g7 c7 w7 hown7 hgrow7 hat7; have H8 := Lib.hid h8; clear h8 hown7 hgrow7 hat7)
      go_roundw
      case rel => exact ⟨i + 1, by go_num, by omega, H8.out⟩
      case measure => simp [intOf]; omega
    · have hi1 : ¬ (i : Int) < (n : Int) := by omega
      have he : i = n := by omega
      rw [List.take_of_length_le (by have := HN.out; omega)] at hg hm
      obtain ⟨wA, rfl⟩ : ∃ x : World, x = wr := ⟨_, rfl⟩
      have HG := Lib.hid hg
      have HM := Lib.hid hm
      have hs : WrS wA H (H + 1) [] X := HS3.out.keep fun b hb => (hm.block b (HS3.out.lt hb).2 (by have := HXL.out b hb; omega)).1
      have HXG : Hid (∀ b, X b → ¬ C b ∧ ¬ GB (H + 2) lvv ks b) := Lib.hid fun b hb => ⟨fun e => by
        have h1 := HCW.out b e
        have h2 := (HS3.out.lt hb).2
        omega, fun e => (hm.block b (HS3.out.lt hb).2 (by have := HXL.out b hb; omega)).2 e⟩
      have hpool : PoolIn wA B role P M vr va lv kd rs ks (ks.map fun k => k.pkg.name) := HH.out.keep (Nat.le_trans HB3.out.size hm.size) (fun b hb => by
        have h1 := HH.out.hi b hb
        have h2 := HHE.out
        rw [(hm.block b (Nat.lt_of_lt_of_le h1 HB3.out.size) (by omega)).1, HB3.out.block b h1])
      have HBA : Hid (Below w.heap.size w wA) := HB3.out.trans ⟨hm.os, hm.tape, hm.output, hm.size, fun b hb => by
        have h2 := HHE.out
        exact (hm.block b (Nat.lt_of_lt_of_le hb HB3.out.size) (by omega)).1⟩
      have hR := repos_c hpool HC.out.rlen
      obtain ⟨mr, hmr⟩ : ∃ mr, rs.length = mr := ⟨_, rfl⟩
      have hK := kind_c hpool
      have HMR := Lib.hid hmr
      rw [hmr] at hR
      have hmr8 : mr ≤ 8 := by rw [← hmr]; exact HC.out.rlen
      have HR := Lib.hid hR
      have HPL := Lib.hid hpool
      clear hpool hR hK hmr hg hm HT HS3 HG3 he hlt hin
      go_wp2_with fail
      refine HR.out.mono ?_
      rintro e wB ⟨⟨ar, cr, rfl, hrow⟩, hbB⟩
      have HSB := Lib.hid (hs.below hbB)
      have HGB := Lib.hid (HG.out.below hbB)
      have HPB := Lib.hid (HPL.out.below hbB)
      have HBB : Hid (Below w.heap.size w wB) := below_tr HBA.out hbB
      have HRW : Hid (wB.ownsRow wA.heap.size 40 4 (.slice ar mr cr) mr (rs.flatMap repoCells)) := Lib.hid hrow
      have HRX : Hid (∀ b, (Value.slice ar mr cr).ownBlock = some b → ¬ X b ∧ b < wB.heap.size) := Lib.hid fun b hb => ⟨fun e => by
        have h1 := (hrow.lt b hb).1
        have h2 := (hs.lt e).2
        omega, (hrow.lt b hb).2⟩
      have hN := Lib.hid (wnum_c HSB.out mr (by omega) (by decide))
      clear hs hbB hrow HR HG HPL
      go_wp2_with fail
      refine hN.out.mono ?_
      rintro e wC ⟨rfl, XC, hsC, hmC⟩
      have HGK : Hid (∀ Xz wz, MMv X wB Xz wz → GrpIn wz H (H + 2) C lvv ks ∧ (∀ b, C b → ¬ Xz b ∧ b < wz.heap.size)) := Lib.hid fun Xz wz hz => by
        have hl : ∀ b, C b ∨ GB (H + 2) lvv ks b → b < wB.heap.size ∧ ¬ X b := fun b hb => by
          rcases hb with hb | hb
          · exact ⟨(HGB.out.con b hb).2.1, fun e => (HXG.out b e).1 hb⟩
          · exact ⟨(HGB.out.lt hb).2, fun e => (HXG.out b e).2 hb⟩
        exact ⟨HGB.out.keep hz.size (fun b hb => (hz.block b (hl b hb).1 (hl b hb).2).1), fun b hb => ⟨(hz.block b (hl b (.inl hb)).1 (hl b (.inl hb)).2).2, Nat.lt_of_lt_of_le (hl b (.inl hb)).1 hz.size⟩⟩
      have HSC : Hid (WrS wC H (H + 1) (.num mr :: tokRepos rs ks 0) XC) := hsC
      have HMC := Lib.hid hmC
      clear hN hsC hmC
      go_wp2_with fail
      go_loopw [54] (fun vi wr => ∃ i : Nat, vi = .int .i64 i ∧ i ≤ mr ∧ Hid (∃ X', WrS wr H (H + 1) (.num mr :: tokRepos rs ks i) X' ∧ MMv X wB X' wr)) (fun vi _ => mr - (intOf vi).toNat)
      case atStart => exact ⟨0, rfl, Nat.zero_le _, XC, HSC.out, HMC.out⟩
      case round =>
        clear HSC HMC
        obtain ⟨i, rfl, hin, HT⟩ := hrel
        obtain ⟨X', hs, hm⟩ := HT.out
        by_cases hlt : i < mr
        · have hi1 : (i : Int) < (mr : Int) := by omega
          have hir : i < rs.length := by have := HMR.out; omega
          obtain ⟨x, hx⟩ : ∃ x, rs[i] = x := ⟨_, rfl⟩
          have hxm : x ∈ rs := by rw [← hx]; exact List.getElem_mem hir
          obtain ⟨hpr1, hpr2⟩ := HC.out.prio x hxm
          have hxn := HC.out.name x hxm
          have htr := tokRepos_succ rs ks hir
          have htl := tokRepos_lt rs ks hir
          rw [hx] at htr
          have htk := HC.out.toks
          obtain ⟨ga, hga⟩ : ∃ ga, ar = some ⟨ga, 0, none⟩ := by
            rcases ownsRow_form HRW.out with ⟨e, h0⟩ | ⟨g, c, e, _⟩
            · omega
            · injection e with e1 e2 e3
              exact ⟨g, e1⟩
          subst hga
          have hrx := HRX.out ga rfl
          have hrb : wr.heap[ga]? = wB.heap[ga]? := (hm.block ga hrx.2 hrx.1).1
          have hcell : ∀ r u, (repoCells x)[r]? = some u → wr.cell? ⟨ga, i * 4 + r, none⟩ = some u := fun r u hr =>
            ownsRow_cell (ownsRow_to HRW.out (fun g hg => by cases hg; exact hrb)) (repos_get rs i hir r u (by rw [hx]; exact hr))
          have q0 := hcell 0 _ rfl
          have q1 := hcell 1 _ rfl
          have q2 := hcell 2 _ rfl
          have q3 := hcell 3 _ rfl
          rw [Nat.add_zero] at q0
          have HTR := Lib.hid htr
          have HTL : Hid ((tokRepos rs ks i).length + 4 + ((pkgsAt ks i).flatMap tokPkg).length + 1 ≤ 1073741824) := Nat.le_trans htl htk
          obtain ⟨xn, hxn0⟩ : ∃ xn, x.name = xn := ⟨_, rfl⟩
          obtain ⟨xp, hxp0⟩ : ∃ xp, x.prio = xp := ⟨_, rfl⟩
          obtain ⟨xi, hxi0⟩ : ∃ xi, x.inst = xi := ⟨_, rfl⟩
          rw [hxn0] at q0 hxn
          rw [hxp0] at q1 hpr1 hpr2
          rw [hxi0] at q2
          have HXE := Lib.hid (And.intro hxn0 (And.intro hxp0 hxi0))
          clear htr htl htk hcell hrb hrx hx hxm hxn0 hxp0 hxi0
          go_upto_region 16 with fail
          obtain ⟨w1, e1⟩ : ∃ w1, wr.alloc (.cells #[.string xn, .int .i64 xp, .bool xi, .slice none 0 0] 40) = w1 := ⟨_, rfl⟩
          have HB1 : Hid (Below wr.heap.size wr w1 ∧ BoxN w1 wr.heap.size [.string xn, .int .i64 xp, .bool xi, .slice none 0 0] 40) := by
            rw [← e1]
            exact ⟨below1 _ _, boxN_alloc _ _ _⟩
          have hX1 : ¬ X' wr.heap.size := fun e => Nat.lt_irrefl _ (hs.lt e).2
          have HX1 := Lib.hid hX1
          have p0 := HB1.out.2.cell (j := 0) rfl
          obtain ⟨ts1, hts1⟩ : ∃ ts1, (Tok.num mr :: tokRepos rs ks i) = ts1 := ⟨_, rfl⟩
          have hl1 : ts1.length = (tokRepos rs ks i).length + 1 := by rw [← hts1, List.length_cons]
          rw [hts1] at hs
          have HTS1 := Lib.hid hts1
          have HL1 := Lib.hid hl1
          have hN := Lib.hid (wtext_c (hs.below HB1.out.1) xn hxn (by have := HTL.out; omega))
          have HM1 : Hid (MMv X wB X' w1) := hm.then HB1.out.1
          clear hs hm HT hts1 hl1 hX1
          go_wp2_with fail
          refine hN.out.mono ?_
          rintro e w2 ⟨rfl, X2, hs2, hm2⟩
          have hb2 := HB1.out.2.to (hm2.block _ HB1.out.2.lt HX1.out).1
          have HX2 := Lib.hid (hm2.block _ HB1.out.2.lt HX1.out).2
          have HM2 : Hid (MMv X wB X2 w2) := HM1.out.trans hm2
          have HB2 := Lib.hid hb2
          obtain ⟨M2, vt2, vo2, hW2, hok2, hfew2, hX2⟩ := id hs2
          obtain ⟨a2, c2, hvo2, hby2⟩ := row_bytes hW2.orow
          have hol2 := hs2.out_len
          have HZ := Lib.hid (zigzag_c xp hpr1 hpr2)
          have hzl := zig_lt hpr1 hpr2
          have HPUT : Hid (∀ W, Below w2.heap.size w2 W → Calls Tryz.prog 31 #[.slice a2 (outOf (ts1 ++ [.txt xn])).length c2, .int .u64 (zig xp : Int)] W fun e w' => ∃ v, e = .returned v ∧ OwnB W v (outOf (ts1 ++ [.txt xn]) ++ Lib.uvarint (zig xp)) w') := Lib.hid fun W hW => put_in (hby2.below hW) c2 (zig xp) hzl (by omega)
          have hts2 : textsOf (ts1 ++ [.txt xn] ++ [.num (zig xp)]) = textsOf (ts1 ++ [.txt xn]) := textsOf_snoc _ _
          have HFIN : Hid (∀ W v w5, Below w2.heap.size w2 W → OwnB W v (outOf (ts1 ++ [.txt xn]) ++ Lib.uvarint (zig xp)) w5 → ∃ X3, WrS (w5.setCell ⟨H + 1, 2, none⟩ v) H (H + 1) (ts1 ++ [.txt xn] ++ [.num (zig xp)]) X3 ∧ MMv X2 w2 X3 (w5.setCell ⟨H + 1, 2, none⟩ v)) := Lib.hid fun W v w5 hW ho => by
            obtain ⟨r1, r2⟩ := hW2.put (below_tr hW ho.2) (ownsRow_lo ho.1 hW.size)
            rw [hX2]
            refine ⟨_, ⟨M2, vt2, v, ?_, fun t ht => ?_, by have := HTL.out; have := HL1.out; simp only [List.length_append, List.length_singleton]; omega, rfl⟩, r2⟩
            · rw [hts2, outOf_snoc, hts2]
              exact r1
            · rcases List.mem_append.1 ht with ht | ht
              · exact hok2 t ht
              · rw [List.mem_singleton] at ht
                rw [ht]
                exact hzl
          have HSW : Hid (∀ W : World, W.heap[H + 1]? = w2.heap[H + 1]? → W.heap[wr.heap.size]? = w2.heap[wr.heap.size]? → W.cell? ⟨H + 1, 2, none⟩ = some (.slice a2 (outOf (ts1 ++ [.txt xn])).length c2) ∧ W.frozen? ⟨H + 1, 2, none⟩ = false ∧ W.cell? ⟨wr.heap.size, 1, none⟩ = some (.int .i64 xp)) := Lib.hid fun W h1 h2 => by
            have h3 := hW2.box.to h1
            rw [hvo2] at h3
            exact ⟨h3.cell (j := 2) rfl, h3.frozen 2, (HB2.out.to h2).cell (j := 1) rfl⟩
          have HLT2 : Hid (H + 1 < w2.heap.size ∧ wr.heap.size < w2.heap.size) := ⟨hW2.box.lt, hb2.lt⟩
          generalize outOf (ts1 ++ [.txt xn]) = l2 at HPUT HFIN HSW
          clear hs2 hm2 hb2 hW2 hok2 hfew2 hX2 hby2 hol2 hts2 hvo2 hN p0 q0 q1 q2 q3 e1
          go_upto_region 17 with fail
          refine wp_region_ord (fun W => W.heap[H + 1]? = w2.heap[H + 1]? ∧ W.heap[wr.heap.size]? = w2.heap[wr.heap.size]?) 11 [(true, 0), (true, 1), (true, 2), (true, 3), (true, 4), (true, 5), (true, 6), (false, 7), (false, 8), (false, 9), (false, 10), (false, 11)] (by kernel_rfl) (by kernel_rfl) (fun _ _ d _ _ h => by cases d <;> exact h) ⟨rfl, rfl⟩ ?_
          intro wd hwd hS
          simp only [ordOps, List.map_cons, List.map_nil, Array.getD_eq_getD_getElem?, List.getElem?_toArray, List.getElem?_cons_succ, List.getElem?_cons_zero, Option.getD_some]
          iterate 7 (refine wpOrd_q rfl _ (fun w' hS' K hK => (by obtain ⟨x0, x1, x2⟩ := HSW.out w' hS'.1 hS'.2; clear hS'; go_simp; exact hK)) (fun K hK => ?_); go_simp; refine hK _ ?_; clear hK K)
          have HBd : Hid (Below w2.heap.size w2 wd) := by rw [hwd.out]; exact below_dr1 (Below.refl _ _)
          have HSd := Lib.hid hS
          clear hS hwd
          refine wpOrd_l rfl (fun K hK => ?_)
          go_simp
          refine (HZ.out wd).mono ?_
          rintro e w3 ⟨rfl, hw3⟩
          subst hw3
          go_simp
          refine hK _ _ ⟨fun _ => HSd.out, ?_⟩
          clear hK K
          refine wpOrd_l rfl (fun K hK => ?_)
          go_simp
          refine (HPUT.out wd HBd.out).mono ?_
          rintro e w5 ⟨v5, rfl, ho5⟩
          have HO5 := Lib.hid ho5
          have HBO : Hid (Below w2.heap.size w2 w5) := below_tr HBd.out ho5.2
          have HS5 : Hid (w5.heap[H + 1]? = w2.heap[H + 1]? ∧ w5.heap[wr.heap.size]? = w2.heap[wr.heap.size]?) := ⟨HBO.out.block _ HLT2.out.1, HBO.out.block _ HLT2.out.2⟩
          obtain ⟨a5, c5, hv5, hby5⟩ := row_bytes ho5.1
          clear hby5
          have HFN := Lib.hid (HFIN.out wd v5 w5 HBd.out ho5)
          obtain ⟨n5, hn5⟩ : ∃ n5, (l2 ++ Lib.uvarint (zig xp)).length = n5 := ⟨_, rfl⟩
          rw [hn5] at hv5
          subst hv5
          clear ho5 hn5 HO5
          go_simp
          refine hK _ _ ⟨fun _ => HS5.out, ?_⟩
          clear hK K
          iterate 2 (refine wpOrd_l rfl (fun K hK => ?_); go_simp; refine hK _ _ ⟨fun _ => HS5.out, ?_⟩; clear hK K)
          obtain ⟨y0, y1, y2⟩ := HSW.out w5 HS5.out.1 HS5.out.2
          refine wpOrd_l rfl (fun K hK => ?_)
          go_simp
          refine hK _ _ ⟨fun h => absurd rfl h, ?_⟩
          clear hK K
          refine wpOrd_nil ?_
          obtain ⟨X3, hs3, hm3⟩ := HFN.out
          obtain ⟨w6, e6⟩ : ∃ w6, w5.setCell ⟨H + 1, 2, none⟩ (.slice a5 n5 c5) = w6 := ⟨_, rfl⟩
          rw [e6] at hs3 hm3 ⊢
          have hb6 := HB2.out.to (hm3.block _ HB2.out.lt HX2.out).1
          have HM6 : Hid (MMv X wB X3 w6) := HM2.out.trans hm3
          have p2 := hb6.cell (j := 2) rfl
          obtain ⟨dn, hdn⟩ : ∃ dn : Nat, (if xi then 1 else 0) = dn := ⟨_, rfl⟩
          have hd1 : dn ≤ 1 := by rw [← hdn]; split <;> omega
          have hN : Hid (∀ z : Int, z = (dn : Int) → Calls Tryz.prog 29 #[.pointer (some ⟨H + 1, 0, none⟩), .int .i64 z] w6 (WrPost w6 H (H + 1) (ts1 ++ [.txt xn] ++ [.num (zig xp)] ++ [.num dn]) X3)) := Lib.hid fun z hz => by
            subst hz
            exact wnum_c hs3 dn (by omega) (by have := HTL.out; have := HL1.out; simp only [List.length_append, List.length_singleton]; omega)
          have HDN := Lib.hid hdn
          have HI1 := Lib.hid hi1
          clear hs3 hm3 hb6 hdn e6 HFN HFIN HSW HPUT HZ HS5 HBO HSd HBd y0 y1 y2 hzl hpr1 hpr2 hxn
          have hcase : xi = true ∨ xi = false := by cases xi <;> simp
          obtain ⟨wD, rfl⟩ : ∃ x : World, x = wr := ⟨_, rfl⟩
          rcases hcase with hxi | hxi
          all_goals
            subst hxi
            go_wp2_with fail
            refine (hN.out _ (by have h1 := HDN.out; simp at h1; omega)).mono ?_
            rintro e w7 ⟨rfl, X7, hs7, hm7⟩
            have HM7 : Hid (MMv X wB X7 w7) := HM6.out.trans hm7
            obtain ⟨al, cl, xs, hcur, hprow⟩ := (HGK.out X7 w7 HM7.out).1.cur i
            have hlk := (HGK.out X7 w7 HM7.out).1.look (i := i) (by omega)
            rw [hcur] at hlk
            obtain ⟨cnt, hcnt⟩ : ∃ cnt, (pkgsAt ks i).length = cnt := ⟨_, rfl⟩
            rw [hcnt] at hlk hcur
            have hcnt200 : cnt ≤ 200 := by
              have h1 := pkgsAt_len ks i
              have h2 := HC.out.klen
              omega
            have hN2 := Lib.hid (wnum_c hs7 cnt (by omega) (by have := HTL.out; have := HL1.out; simp only [List.length_append, List.length_singleton]; omega))
            have HCUR := Lib.hid hcur
            have HCNT := Lib.hid hcnt
            clear hs7 hm7 hcur hprow hcnt p2
            go_wp2_with fail
            refine hN2.out.mono ?_
            rintro e w8 ⟨rfl, X8, hs8, hm8⟩
            have HM8 : Hid (MMv X wB X8 w8) := HM7.out.trans hm8
            have HS8 := Lib.hid hs8
            clear hlk
            have hlk := (HGK.out X8 w8 HM8.out).1.look (i := i) (by omega)
            rw [HCUR.out] at hlk
            clear hN2 hs8 hm8
            go_wp2_with fail
            clear hlk
            go_loopw [89] (fun vi wr => ∃ j : Nat, vi = .int .i64 j ∧ j ≤ cnt ∧ Hid (∃ X9, WrS wr H (H + 1) (ts1 ++ [.txt xn] ++ [.num (zig xp)] ++ [.num dn] ++ [.num cnt] ++ ((pkgsAt ks i).take j).flatMap tokPkg) X9 ∧ MMv X wB X9 wr)) (fun vi _ => cnt - (intOf vi).toNat)
            case atStart => exact ⟨0, rfl, Nat.zero_le _, X8, by rw [List.take_zero, List.flatMap_nil, List.append_nil]; exact HS8.out, HM8.out⟩
            case round =>
              clear HS8 HM8
              obtain ⟨j, rfl, hjn, HT⟩ := hrel
              obtain ⟨X9, hs9, hm9⟩ := HT.out
              by_cases hjl : j < cnt
              · have hj1 : (j : Int) < (cnt : Int) := by omega
                have hjp : j < (pkgsAt ks i).length := by have := HCNT.out; omega
                obtain ⟨hgr, hcon⟩ := HGK.out X9 wr hm9
                obtain ⟨al2, cl2, xs, hcur2, hprow⟩ := hgr.cur i
                rw [HCUR.out] at hcur2
                injection hcur2 with hc1 hc2 hc3
                subst hc1
                subst hc3
                clear hc2
                obtain ⟨ga3, hga3⟩ : ∃ ga3, al = some ⟨ga3, 0, none⟩ := by
                  rcases ownsRow_form hprow.row with ⟨e, h0⟩ | ⟨g, c, e, _⟩
                  · omega
                  · injection e with e1 e2 e3
                    exact ⟨g, e1⟩
                subst hga3
                obtain ⟨xa, xc, xf, xn2, xg, hpv, hcells⟩ := hprow.has j hjp
                have hmem := mem_pkgsAt (List.getElem_mem hjp)
                have htake : ((pkgsAt ks i).take (j + 1)).flatMap tokPkg = ((pkgsAt ks i).take j).flatMap tokPkg ++ tokPkg (pkgsAt ks i)[j] := by
                  rw [List.take_add_one, List.getElem?_eq_getElem hjp, Option.toList_some, List.flatMap_append, List.flatMap_singleton]
                have hle : (((pkgsAt ks i).take (j + 1)).flatMap tokPkg).length ≤ ((pkgsAt ks i).flatMap tokPkg).length := by
                  have h1 : (pkgsAt ks i).flatMap tokPkg = ((pkgsAt ks i).take (j + 1)).flatMap tokPkg ++ ((pkgsAt ks i).drop (j + 1)).flatMap tokPkg := by
                    rw [← List.flatMap_append, List.take_append_drop]
                  rw [h1, List.length_append]
                  omega
                obtain ⟨pk, hpk⟩ : ∃ pk, (pkgsAt ks i)[j] = pk := ⟨_, rfl⟩
                rw [hpk] at hpv hcells hmem htake
                rw [htake, List.length_append] at hle
                have hform : ∀ a b, formB (pk.deps a b) = true := fun a b => by
                  obtain ⟨k, hk, e, _⟩ := hmem
                  subst e
                  exact HC.out.form k hk a b
                have hrow := hprow.row
                have hq : ∀ r u, (pkgCells pk.name pk.evr pk.arch pk.vendor (fun i => .slice (xa i) (pk.n i) (xc i)) (.slice xf xn2 xg))[r]? = some u → wr.cell? ⟨ga3, j * 12 + r, none⟩ = some u := fun r u hr => by
                  rw [HCNT.out] at hrow
                  exact ownsRow_cell hrow (hcells r u hr)
                have q0 := hq 0 _ rfl
                have q1 := hq 1 _ rfl
                have q2 := hq 2 _ rfl
                have q3 := hq 3 _ rfl
                have q4 := hq 4 _ rfl
                have q5 := hq 5 _ rfl
                have q6 := hq 6 _ rfl
                have q7 := hq 7 _ rfl
                have q8 := hq 8 _ rfl
                have q9 := hq 9 _ rfl
                have q10 := hq 10 _ rfl
                have q11 := hq 11 _ rfl
                rw [Nat.add_zero] at q0
                have HTAKE := Lib.hid htake
                have HLE := Lib.hid hle
                have HPV := Lib.hid hpv
                have HS9 := Lib.hid hs9
                have HM9 := Lib.hid hm9
                have HCON := Lib.hid hcon
                have HFORM := Lib.hid hform
                clear hq hrow hform hmem hpk htake hle hcells hpv hprow hgr hcon hs9 hm9 HT
                go_upto_region 26 with fail
                obtain ⟨w9, e9⟩ : ∃ w9, wr.alloc (.cells #[.string pk.name, .string pk.evr, .string pk.arch, .string pk.vendor, .slice (xa 0) (pk.n 0) (xc 0), .slice (xa 1) (pk.n 1) (xc 1), .slice (xa 2) (pk.n 2) (xc 2), .slice (xa 3) (pk.n 3) (xc 3), .slice (xa 4) (pk.n 4) (xc 4), .slice (xa 5) (pk.n 5) (xc 5), .slice (xa 6) (pk.n 6) (xc 6), .slice xf xn2 xg] 45) = w9 := ⟨_, rfl⟩
                have HB9 : Hid (Below wr.heap.size wr w9 ∧ BoxN w9 wr.heap.size [.string pk.name, .string pk.evr, .string pk.arch, .string pk.vendor, .slice (xa 0) (pk.n 0) (xc 0), .slice (xa 1) (pk.n 1) (xc 1), .slice (xa 2) (pk.n 2) (xc 2), .slice (xa 3) (pk.n 3) (xc 3), .slice (xa 4) (pk.n 4) (xc 4), .slice (xa 5) (pk.n 5) (xc 5), .slice (xa 6) (pk.n 6) (xc 6), .slice xf xn2 xg] 45) := by
                  rw [← e9]
                  exact ⟨below1 _ _, boxN_alloc _ _ _⟩
                have p0 := HB9.out.2.cell (j := 0) rfl
                have p1 := HB9.out.2.cell (j := 1) rfl
                have p2 := HB9.out.2.cell (j := 2) rfl
                have p3 := HB9.out.2.cell (j := 3) rfl
                have p4 := HB9.out.2.cell (j := 4) rfl
                have p5 := HB9.out.2.cell (j := 5) rfl
                have p6 := HB9.out.2.cell (j := 6) rfl
                have p7 := HB9.out.2.cell (j := 7) rfl
                have p8 := HB9.out.2.cell (j := 8) rfl
                have p9 := HB9.out.2.cell (j := 9) rfl
                have p10 := HB9.out.2.cell (j := 10) rfl
                have p11 := HB9.out.2.cell (j := 11) rfl
                have hP := Lib.hid (wpack_c pk xa xc xf xn2 xg w9 H (H + 1) _ X9 C (HS9.out.below HB9.out.1) (HPV.out.below HB9.out.1) (fun b hb => ⟨(HCON.out b hb).1, Nat.lt_of_lt_of_le (HCON.out b hb).2 HB9.out.1.size⟩) HFORM.out (by have := HTL.out; have := HL1.out; have := HLE.out; simp only [List.length_append, List.length_singleton]; omega))
                clear q0 q1 q2 q3 q4 q5 q6 q7 q8 q9 q10 q11
                go_wp2_with fail
                refine hP.out.mono ?_
                rintro e w10 ⟨rfl, X10, hs10, hm10⟩
                have H10 : Hid (WrS w10 H (H + 1) (ts1 ++ [.txt xn] ++ [.num (zig xp)] ++ [.num dn] ++ [.num cnt] ++ ((pkgsAt ks i).take (j + 1)).flatMap tokPkg) X10 ∧ MMv X wB X10 w10) := by
                  rw [HTAKE.out, ← List.append_assoc]
                  exact ⟨hs10, (HM9.out.then HB9.out.1).trans hm10⟩
                clear hs10 hm10 hP p0 p1 p2 p3 p4 p5 p6 p7 p8 p9 p10 p11 e9
                go_wp2_with fail
                go_roundw
                case rel => exact ⟨j + 1, by go_num, by omega, X10, H10.out⟩
                case measure => simp [intOf]; omega
              · have hj1 : ¬ (j : Int) < (cnt : Int) := by omega
                have hje : j = cnt := by omega
                have HEND : Hid (WrS wr H (H + 1) (.num mr :: tokRepos rs ks (i + 1)) X9 ∧ MMv X wB X9 wr) := by
                  rw [List.take_of_length_le (by have := HCNT.out; omega)] at hs9
                  refine ⟨?_, hm9⟩
                  have e0 : (Tok.num mr :: tokRepos rs ks (i + 1)) = ts1 ++ [.txt xn] ++ [.num (zig xp)] ++ [.num dn] ++ [.num cnt] ++ (pkgsAt ks i).flatMap tokPkg := by
                    rw [HTR.out, ← HTS1.out]
                    unfold tokRepo
                    have e5 : (if x.inst then 1 else 0) = dn := by
                      rw [HXE.out.2.2]
                      exact HDN.out
                    rw [e5, HXE.out.1, HXE.out.2.1, HCNT.out]
                    simp only [List.append_assoc, List.cons_append, List.nil_append]
                  rw [e0]
                  exact hs9
                clear hs9 hm9 HT hje
                go_wp2_with fail
                go_roundw
                case rel => exact ⟨i + 1, by go_num, by omega, X9, HEND.out⟩
                case measure => simp [intOf]; omega
        · have hi1 : ¬ (i : Int) < (mr : Int) := by omega
          have he : i = mr := by omega
          have hsT : WrS wr H (H + 1) (tokPool rs ks) X' := by
            unfold tokPool
            rw [HMR.out, ← he]
            rw [he] at hs ⊢
            exact hs
          have hpool : PoolIn wr B role P M vr va lv kd rs ks (ks.map fun k => k.pkg.name) := HPB.out.keep hm.size (fun b hb => by
            have h1 := HH.out.hi b hb
            have h2 := HHE.out
            exact (hm.block b (HPB.out.hi b hb) (fun e => by
              have := (HSB.out.lt e).1
              omega)).1)
          have hBF : Below w.heap.size w wr := HBB.out.trans ⟨hm.os, hm.tape, hm.output, hm.size, fun b hb => by
            have h2 := HHE.out
            exact (hm.block b (Nat.lt_of_lt_of_le hb HBB.out.size) (fun e => by
              have := (HSB.out.lt e).1
              omega)).1⟩
          obtain ⟨kn, hkn⟩ : ∃ kn : Nat, kd = (kn : Int) := ⟨kd.toNat, by have := HC.out.kind.1; omega⟩
          have hkn2 : kn < 9223372036854775808 := by have := HC.out.kind.2; omega
          have hK := kind_c hpool
          rw [hkn] at hK
          obtain ⟨Mw, vt, vo, hW, _, hfew, hX⟩ := hsT
          obtain ⟨T, hT⟩ : ∃ T, textsOf (tokPool rs ks) = T := ⟨_, rfl⟩
          obtain ⟨O, hO⟩ : ∃ O, outOf (tokPool rs ks) = O := ⟨_, rfl⟩
          have hTl := textsOf_len (tokPool rs ks)
          rw [hT, hO] at hW
          rw [hT] at hTl
          have henc := HC.out.len
          have hpost := HPOST.out
          unfold encB at henc hpost
          rw [hT, hO, hkn, Int.toNat_natCast] at henc hpost
          obtain ⟨wF, rfl⟩ : ∃ x : World, x = wr := ⟨_, rfl⟩
          obtain ⟨at_, ct, hvt⟩ := ownsRow_slice hW.trow
          obtain ⟨ao, co, hvo⟩ := ownsRow_slice hW.orow
          subst hvt hvo
          obtain ⟨tn, htn⟩ : ∃ tn, T.length = tn := ⟨_, rfl⟩
          rw [htn] at hTl
          have hfew2 : tn ≤ 1073741824 := Nat.le_trans hTl hfew
          have HKB : Hid (∀ W, Below wF.heap.size wF W → Calls Tryz.prog 34 #[.pointer (some ⟨P, 0, none⟩)] W fun e w' => e = .returned (.int .i64 (kn : Int)) ∧ W = w') := Lib.hid fun W hb => by
            have h1 := kind_c (hpool.below hb)
            rw [hkn] at h1
            exact h1
          have HWM := Lib.hid hW
          have HTN := Lib.hid htn
          have HBF := Lib.hid hBF
          have HENC := Lib.hid henc
          have HPO := Lib.hid hpost
          have hwk : IntKind.u64.wrap (kn : Int) = (kn : Int) := wraps_u64 _ (by omega) (by omega)
          have hwt : IntKind.u64.wrap (tn : Int) = (tn : Int) := wraps_u64 _ (by omega) (by omega)
          obtain ⟨wG, eG⟩ : ∃ wG, wF.alloc (.cells #[.int .u8 99, .int .u8 104, .int .u8 97, .int .u8 110, .int .u8 100, .int .u8 108, .int .u8 101, .int .u8 114, .int .u8 49] 5 (9, 10)) = wG := ⟨_, rfl⟩
          have HBG : Hid (Below wF.heap.size wF wG ∧ BytesAt wG (some ⟨wF.heap.size, 0, none⟩) magicB) := by
            rw [← eG]
            exact ⟨below1 _ _, magic_at wF⟩
          have kc : (convert 23 23 (.slice (some ⟨wF.heap.size, 0, none⟩) 9 9)).run Tryz.prog (wF.alloc (.cells #[.int .u8 99, .int .u8 104, .int .u8 97, .int .u8 110, .int .u8 100, .int .u8 108, .int .u8 101, .int .u8 114, .int .u8 49] 5)) = .ok (.slice (some ⟨wF.heap.size, 0, none⟩) 9 9) (wF.alloc (.cells #[.int .u8 99, .int .u8 104, .int .u8 97, .int .u8 110, .int .u8 100, .int .u8 108, .int .u8 101, .int .u8 114, .int .u8 49] 5 (9, 10))) := Lib.run_convert_bytes_const (P := Tryz.prog) wF 23 5 #[.int .u8 99, .int .u8 104, .int .u8 97, .int .u8 110, .int .u8 100, .int .u8 108, .int .u8 101, .int .u8 114, .int .u8 49] 9 9 Tryz.underlying23 Tryz.underlying5
          clear hs hm HT he hpool hBF hkn hK hW hT hO hfew hTl henc hpost htn hX HSB HGB HPB HRW HRX HGK HXG hlt hin
          have hP0 := Lib.hid (put_at HBG.out.2 (n := 9) rfl 9 kn (by omega) (by decide))
          rw [eG] at kc
          obtain ⟨j0, hj, hjz0, hjz1, hjz2⟩ := info_parts info5
          go_wp2_with fail
          refine (HKB.out wG HBG.out.1).mono ?_
          rintro e w1 ⟨rfl, hw1⟩
          subst hw1
          go_wp2_with fail
          refine hP0.out.mono ?_
          rintro e w1 ⟨a1, n1, c1, rfl, hn1, ho1⟩
          have HO1 := Lib.hid (ho1.base HBG.out.1)
          have HW1 := Lib.hid (HWM.out.keep (w' := w1) fun b hb => HO1.out.2.block b (HWM.out.lt hb).2)
          have z0 := HW1.out.box.cell (j := 0) rfl
          rw [HTN.out] at z0
          have hE := HENC.out
          rw [HTN.out] at hE
          simp only [List.length_append] at hE
          have hmgl : magicB.length = 9 := rfl
          have hP1 := Lib.hid (put_at (row_bytes2 ho1.1) hn1 c1 tn (by omega) (by simp only [List.length_append]; omega))
          clear ho1 hP0 hn1
          go_wp2_with fail
          refine hP1.out.mono ?_
          rintro e w2 ⟨a2, n2, c2, rfl, hn2, ho2⟩
          have HO2 := Lib.hid (ho2.base HO1.out.2)
          have HW2 := Lib.hid (HWM.out.keep (w' := w2) fun b hb => HO2.out.2.block b (HWM.out.lt hb).2)
          clear z0
          have z0 := HW2.out.box.cell (j := 0) rfl
          rw [HTN.out] at z0
          clear ho2 hP1 hn2 HO1 HW1
          go_wp2_with fail
          clear z0
          go_loopw [16, 117] (fun vb vi wr => ∃ (i : Nat) (ab : Option Addr) (nb cb : Nat), vi = .int .i64 i ∧ i ≤ tn ∧ vb = .slice ab nb cb ∧ Hid (OwnB wF (.slice ab nb cb) (magicB ++ Lib.uvarint kn ++ Lib.uvarint tn ++ tabB (T.take i)) wr)) (fun _ vi _ => tn - (intOf vi).toNat)
          case atStart => exact ⟨0, _, _, _, rfl, Nat.zero_le _, rfl, by
            have e0 : tabB (T.take 0) = [] := by simp [tabB]
            rw [e0, List.append_nil]
            exact HO2.out⟩
          case round =>
            clear HO2 HW2
            obtain ⟨i, ab, nb, cb, rfl, hin, rfl, HT⟩ := hrel
            have HW3 := Lib.hid (HWM.out.keep (w' := wr) fun b hb => HT.out.2.block b (HWM.out.lt hb).2)
            by_cases hlt : i < tn
            · have hi1 : (i : Int) < (tn : Int) := by omega
              have hil : i < T.length := by have := HTN.out; omega
              obtain ⟨gt, hgt⟩ : ∃ gt, at_ = some ⟨gt, 0, none⟩ := by
                rcases ownsRow_form HW3.out.trow with ⟨e, h0⟩ | ⟨g, c, e, _⟩
                · omega
                · injection e with e1 e2 e3
                  exact ⟨g, e1⟩
              subst hgt
              have q : wr.cell? ⟨gt, i * 1 + 0, none⟩ = some (.string T[i]) := ownsRow_cell HW3.out.trow (by simp [hil])
              rw [Nat.mul_one, Nat.add_zero] at q
              have htk := tabB_snoc hil
              have hle := tabB_le hil
              have hlt2 : (tabB (T.take i)).length ≤ (tabB T).length := by omega
              obtain ⟨s, hs⟩ : ∃ s, T[i] = s := ⟨_, rfl⟩
              rw [hs] at q htk hle
              have HTK := Lib.hid htk
              have hnb := row_len HT.out.1
              have hsz : s.size ≤ 70368744177664 := by omega
              have hws : IntKind.u64.wrap (s.size : Int) = (s.size : Int) := wraps_u64 _ (by omega) (by omega)
              have hP := Lib.hid (put_at (row_bytes2 HT.out.1) hnb cb s.size (by omega) (by simp only [List.length_append]; omega))
              have HLE := Lib.hid (And.intro hle hE)
              clear htk hle hlt2 hs hnb
              go_wp2_with fail
              refine hP.out.mono ?_
              rintro e w3 ⟨a3, n3, c3, rfl, hn3, ho3⟩
              have HO3 := Lib.hid (ho3.base HT.out.2)
              have hrow := HO3.out.1
              rw [hn3] at hrow
              have HROW := Lib.hid hrow
              have hn3b : n3 + s.size ≤ 70368744177664 := by
                rw [← hn3]
                have := HLE.out
                simp only [List.length_append]
                omega
              have hbs := HO3.out.2.size
              have HN3 := Lib.hid hn3
              clear ho3 hP hrow hn3
              go_wp2_with (at_builtin; refine Lib.wpList_append_own_string _ rfl (.tmp 125) (.tmp 126) 23 9 rfl wF.heap.size 5 j0 Tryz.underlying23 Tryz.underlying9 hj hjz0 hjz1 hjz2 (.slice a3 n3 c3) n3 _ rfl HROW.out s rfl (by unfold maxLen; omega) (by omega) hbs ?_; intro v4 w4 hown4 hgrow4 _)
              obtain ⟨a4, n4, c4, rfl, HO4⟩ : ∃ a4 n4 c4, v4 = .slice a4 n4 c4 ∧ Hid (OwnB wF (.slice a4 n4 c4) (magicB ++ Lib.uvarint kn ++ Lib.uvarint tn ++ tabB (T.take (i + 1))) w4) := by
                obtain ⟨a4, c4, e4⟩ := ownsRow_slice hown4
                refine ⟨a4, _, c4, e4, ?_, ?_⟩
                · rw [HTK.out, ← List.append_assoc, ← List.append_assoc, List.length_append, HN3.out, Lib.byteCells_append, ← e4]
                  have e5 : s.data.toList.length = s.size := by
                    rw [Array.length_toList]
                    rfl
                  rw [e5]
                  exact hown4
                · exact HO3.out.2.trans (grown_own HROW.out HO3.out.2.size hgrow4)
              clear hown4 hgrow4 HROW HN3 HTK
              go_roundw
              case rel => exact ⟨i + 1, a4, n4, c4, by go_num, by omega, rfl, HO4.out⟩
              case measure => simp [intOf]; omega
            · have hi1 : ¬ (i : Int) < (tn : Int) := by omega
              have he : i = tn := by omega
              have hO5 := HT.out
              rw [List.take_of_length_le (by have := HTN.out; omega)] at hO5
              have z2 := HW3.out.box.cell (j := 2) rfl
              have hRB : ReadsB wr (.slice ao O.length co) O := by
                rcases HW3.out.orow.2 with ⟨e, h0⟩ | ⟨g, cap, cur, e, _⟩
                · exact .inl ⟨e, List.length_eq_zero_iff.1 h0⟩
                · rw [e]
                  exact .inr ⟨_, _, rfl, (e ▸ HW3.out.orow).cells rfl⟩
              have HO5 := Lib.hid hO5
              have HRB := Lib.hid hRB
              obtain ⟨on, hon⟩ : ∃ on, O.length = on := ⟨_, rfl⟩
              rw [hon] at z2
              have HON := Lib.hid hon
              have hlim : (magicB ++ Lib.uvarint kn ++ Lib.uvarint tn ++ tabB T).length + O.length ≤ 140737488355328 := by
                simp only [List.length_append]
                omega
              clear hO5 hRB HT he hon
              go_wp2_with (at_builtin; refine wpList_appB rfl (.tmp 129) (.tmp 133) rfl (.slice ab nb cb) (.slice ao on co) (magicB ++ Lib.uvarint kn ++ Lib.uvarint tn ++ tabB T) O rfl rfl HO5.out (by rw [← HON.out]; exact HRB.out) hlim ?_; intro v6 w6 hown6 hgrow6)
              rw [← HPO.out, HTN.out]
              exact ⟨v6, rfl, hown6.base HBF.out⟩
end Go.Proofs.YtbdankpkdhhlmaaGreat
