/-
  The walk of AttrsDirs. Helper text; the conditions are those typed.
-/
import Derived.Test.YtnplmembdfklcaaDoorLawA
import Derived.Test.YtnplmembdfklcaaDoorDirsLaw
import Derived.Lib.SmallJoins
namespace Go.Proofs.YtnplmembdfklcaaDoor
set_option linter.unusedVariables false
set_option linter.unusedSimpArgs false
open Go.RowKit Go.Maps

/-- Rows of numbers. -/
def intsI (l : List Int) : List Value := l.map fun (i : Int) => .int .i64 i
theorem intsI_snoc (l : List Int) (i : Int) : intsI (l ++ [i]) = intsI l ++ [.int .i64 i] := by
  unfold intsI
  simp
theorem info3 : (Tryd.prog.info? 3).map (fun i => (i.zero, i.size, i.bytes)) = some (some (.int .i64 0), 1, 8) := by kernel_rfl
/-- the number that is kept -/
def numOf' (ds : DirL) (p : ByteArray) : Int := if dirErr ds p = 0 then ((dirRun ds p).2 : Int) else -1

section
variable {w w' : World} {B : Nat} {role role' : Nat → Role} {S K V L : Nat} {vk vd : Value} {ib : Int → Option Nat} {sl : Int → ByteArray → Value} {n : Nat} {st : StT}
/-- A free block grows. -/
theorem StoreIn.grown_free (h : StoreIn w B role S K V L vk vd ib sl n st) {row : Option Nat} (hg : w.grownBy w' row) (hr : ∀ b, row = some b → role b = .free) : StoreIn w' B role S K V L vk vd ib sl n st := by
  have hk : ∀ c R, role c = R → R ≠ .free → w'.heap[c]? = w.heap[c]? := fun c R hc hR => hg.block c (h.hi c (by rw [hc]; exact hR)) (fun e => hR (hc.symm.trans (hr c e.symm)))
  exact ⟨h.box.to (hk _ _ h.rS (by simp)), ownsRow_to h.keys fun g hg => hk _ _ (h.rk g hg) (by simp), h.kinds.block (hk _ _ h.rK (by simp)), h.values.block (hk _ _ h.rV (by simp)), fun id b hb => (h.inner id b hb).block (hk _ _ (h.ri id b hb) (by simp)), h.hasv,
    fun id key v hv => (h.cont id key v hv).keep (fun _ h => h) (fun c hc _ => hk c _ hc (by simp)), ownsRow_to h.dirs fun g hg => hk _ _ (h.rd g hg) (by simp), h.places.block (hk _ _ h.rL (by simp)), h.rS, h.rK, h.rV, h.rL, h.rk, h.rd, h.ri, h.lo, fun c hc => Nat.lt_of_lt_of_le (h.hi c hc) hg.size⟩
end

/-- What the first loop keeps: the store, the numbers. -/
structure DirsInv (w : World) (S K V L : Nat) (l : List ByteArray) (i : Nat) (v : Value) (wr : World) (role : Nat → Role) (vd : Value) (ds : DirL) (ns : List Int) : Prop where
  below : Below w.heap.size w wr
  free : ∀ b, b < w.heap.size → role b = .free
  store : StoreIn wr w.heap.size role S K V L (.slice none 0 0) vd (fun _ => none) (fun _ _ => .slice none 0 0) 0 { st0 with dirs := ds }
  ok : DirsOK ds
  len : ds.length ≤ 2000
  row : wr.ownsRow w.heap.size 3 1 v i (intsI ns)
  rowfree : ∀ g, v.ownBlock = some g → role g = .free
  nl : ns.length = i
  told : ∀ j (h : j < ns.length) (h' : j < l.length), ns[j] = -1 ∨ ∃ k : Nat, ns[j] = k ∧ Fix ds l[j] k

theorem bs_extract0 (p : ByteArray) (m : Nat) : bs (p.extract 0 m) = (bs p).take m := by
  show (p.extract 0 m).data.toList = _
  rw [Lib.extract_data]
  simp [bs]
theorem bs_app (a b : ByteArray) : bs (a ++ b) = bs a ++ bs b := Go.Joins.data_append a b
theorem DirsInv.keep {w w2 w3 : World} {S K V L : Nat} {l : List ByteArray} {i : Nat} {v : Value} {role : Nat → Role} {vd : Value} {ds : DirL} {ns : List Int} (h : DirsInv w S K V L l i v w2 role vd ds ns) (hb : Below w2.heap.size w2 w3) : DirsInv w S K V L l i v w3 role vd ds ns :=
  ⟨h.below.trans (below_to hb h.below.size), h.free, h.store.below h.below.size hb, h.ok, h.len, ownsRow_below h.row hb, h.rowfree, h.nl, h.told⟩
theorem DirsInv.moved {w w2 w3 : World} {S K V L : Nat} {l : List ByteArray} {i : Nat} {v : Value} {role role2 : Nat → Role} {vd vd2 : Value} {ds : DirL} {ns : List Int} (h : DirsInv w S K V L l i v w2 role vd ds ns) (hm : Moved role w2 role2 w3)
    (hs : StoreIn w3 w.heap.size role2 S K V L (.slice none 0 0) vd2 (fun _ => none) (fun _ _ => .slice none 0 0) 0 { st0 with dirs := ds }) : DirsInv w S K V L l i v w3 role2 vd2 ds ns := by
  have hb := hm.out h.below h.below.size h.free
  exact ⟨hb.1, hb.2, hs, h.ok, h.len, ownsRow_to h.row fun g hg => (hm.block (h.row.lt g hg).2 (h.rowfree g hg)).1, fun g hg => (hm.block (h.row.lt g hg).2 (h.rowfree g hg)).2, h.nl, h.told⟩

set_option maxHeartbeats 8000000 in
set_option maxRecDepth 100000 in
theorem dirs_walk (l : List ByteArray) (a : Option Addr) (N c : Nat) (w : World) (hl : StrsV w (· < w.heap.size) l (.slice a N c)) :
    Calls Tryd.prog 6 #[.slice a N c] w fun e w' => e = .returned (.bool true) ∧ Below w.heap.size w w' := by
  have H0 : Hid (∀ w', Calls Tryd.prog 8 #[] w' fun e w'' => e = .returned (.bool true) ∧ Below w'.heap.size w' w'') := awake_c
  have hln := hl.len
  have HL := Lib.hid hl
  have hN : N * 16 ≤ 140737488355328 := by
    obtain ⟨a', c', e, _, h2, _⟩ := hl
    injection e with _ e2 _
    omega
  clear hl
  replace hln := Lib.hid hln
  go_enter Tryd.func6, Tryd.ntmps6
  go_upto_region 2 with (go_at_call 8; refine (H0.out _).mono ?_; rintro e w1 ⟨rfl, hb1⟩)
  have HB1 := Lib.hid hb1
  clear hb1
  have HN : Hid (Calls Tryd.prog 11 #[] w1 fun e w' => (∃ S, e = .returned (.pointer (some ⟨S, 0, none⟩)) ∧ ∃ role K V L vd, StoreIn w' w.heap.size role S K V L (.slice none 0 0) vd (fun _ => none) (fun _ _ => .slice none 0 0) 0 st0 ∧ (∀ b, b < w1.heap.size → role b = .free)) ∧ Below w1.heap.size w1 w') := new_c w.heap.size w1 HB1.out.size
  go_upto_region 6 with (go_at_call 11; refine HN.out.mono ?_; rintro e w2 ⟨⟨S, rfl, HNEW⟩, hb2⟩)
  obtain ⟨role0, K, V, L, vd0, hs0, hf0⟩ := HNEW
  have HI0 : Hid (DirsInv w S K V L l 0 (.slice none 0 0) w2 role0 vd0 [([47], 0)] []) := ⟨below_tr HB1.out hb2, fun b hb => hf0 b (Nat.lt_of_lt_of_le hb HB1.out.size), hs0, dirs0, by decide, World.ownsRow_nil _ _ _ _, fun g h => (by cases h), rfl, fun j h => absurd h (Nat.not_lt_zero _)⟩
  clear hb2 hs0 hf0 HN HB1 H0
  go_wp2_with fail
  go_loopw [5, 6] (fun v5 v6 wr => ∃ i : Nat, v6 = .int .i64 i ∧ i ≤ N ∧ Hid (∃ role vd ds ns, DirsInv w S K V L l i v5 wr role vd ds ns)) (fun _ v6 _ => N - (intOf v6).toNat)
  case atStart => exact ⟨0, rfl, Nat.zero_le _, _, _, _, _, HI0.out⟩
  case round =>
    obtain ⟨i, rfl, hi, HX⟩ := hrel
    obtain ⟨role, vd, ds, ns, hI⟩ := HX.out
    clear HX HI0
    have HI := Lib.hid hI
    obtain ⟨ra, rc, hv5⟩ := ownsRow_slice hI.row
    clear hI
    subst hv5
    by_cases hlt : i < N
    · have hi1 : (i : Int) < (N : Int) := by omega
      have hlen : i < l.length := by have := hln.out; omega
      have hne : l ≠ [] := fun e => by rw [e] at hlen; exact absurd hlen (Nat.not_lt_zero _)
      obtain ⟨a', c', he, hsz, _, hin⟩ := HL.out
      obtain ⟨b, off, hab, hbS, hcells⟩ := hin hne
      have haa : a = a' := by injection he
      rw [← haa] at hab
      clear haa
      subst hab
      have hlt0 : b < w.heap.size := hbS
      have c0 : wr.cell? ⟨b, off + i, none⟩ = some (.string l[i]) := cell_blk (HI.out.below.block b hbS) (hcells i hlen)
      clear hlt0
      clear hin hcells he
      replace hsz := Lib.hid hsz
      have HD : Hid (Calls Tryd.prog 12 #[.pointer (some ⟨S, 0, none⟩), .string l[i]] wr (DirPost role wr w.heap.size S K V L (.slice none 0 0) (fun _ => none) (fun _ _ => .slice none 0 0) 0 { st0 with dirs := ds } l[i])) := dir_c HI.out.store HI.out.below.size HI.out.len l[i]
      have HNX : Hid (∀ role2 w5 vd2, Moved role wr role2 w5 → StoreIn w5 w.heap.size role2 S K V L (.slice none 0 0) vd2 (fun _ => none) (fun _ _ => .slice none 0 0) 0 { st0 with dirs := (dirRun ds l[i]).1 } →
          ∀ g cap w7, w7.ownsRow w.heap.size 3 1 (.slice (some ⟨g, 0, none⟩) (i + 1) cap) (i + 1) (intsI ns ++ [.int .i64 (numOf' ds l[i])]) → (w5.alloc (.cells #[.int .i64 (numOf' ds l[i])] 3)).grownBy w7 (Value.slice ra i rc).ownBlock → ((Value.slice ra i rc).ownBlock = some g ∨ g = w5.heap.size + 1) → g < w7.heap.size →
          ∃ role vd ds ns, DirsInv w S K V L l (i + 1) (.slice (some ⟨g, 0, none⟩) (i + 1) cap) w7 role vd ds ns) := fun role2 w5 vd2 hm hs g cap w7 hown hg hat hlt7 => by
        have h1 := HI.out
        have hb5 := hm.out h1.below h1.below.size h1.free
        have hrf : ∀ g, (Value.slice ra i rc).ownBlock = some g → role2 g = .free := fun g hg => (hm.block (h1.row.lt g hg).2 (h1.rowfree g hg)).2
        have hs6 := hs.below hb5.1.size (below1 w5 (.cells #[.int .i64 (numOf' ds l[i])] 3))
        have hs7 := hs6.grown_free hg hrf
        have hb6 : Below w.heap.size w (w5.alloc (.cells #[.int .i64 (numOf' ds l[i])] 3)) := below_al hb5.1 (Nat.le_refl _) _
        refine ⟨role2, vd2, (dirRun ds l[i]).1, ns ++ [numOf' ds l[i]], ?_⟩
        have hdir : ∃ r, DirsOK (dirRun ds l[i]).1 ∧ (dirRun ds l[i]).1 = ds ++ r ∧ (dirRun ds l[i]).1.length ≤ 2000 ∧ (numOf' ds l[i] = -1 ∨ ∃ k : Nat, numOf' ds l[i] = k ∧ Fix (dirRun ds l[i]).1 l[i] k) := by
          unfold numOf'
          by_cases he : dirErr ds l[i] = 0
          · obtain ⟨r, d1, d2, d3, d4⟩ := dir_ok h1.ok h1.len he
            exact ⟨r, d1, d2, d3, .inr ⟨_, if_pos he, d4⟩⟩
          · have hr : dirRun ds l[i] = (ds, 0) := by unfold dirRun; rw [if_neg he]
            rw [hr]
            exact ⟨[], h1.ok, (List.append_nil _).symm, h1.len, .inl (if_neg he)⟩
        obtain ⟨r, d1, d2, d3, d4⟩ := hdir
        refine ⟨⟨hg.os.trans hb6.os, hg.tape.trans hb6.tape, hg.output.trans hb6.output, Nat.le_trans hb6.size hg.size, fun b hb => ?_⟩, hb5.2, hs7, d1, d3, by rw [intsI_snoc]; exact hown, fun g' hg' => ?_, by rw [List.length_append, h1.nl]; rfl, fun j hj hj' => ?_⟩
        · rw [hg.block b (Nat.lt_of_lt_of_le hb hb6.size) (fun e => by have := (h1.row.lt b e.symm).1; omega), hb6.block b hb]
        · cases hg'
          rcases hat with h2 | h2
          · exact hrf g h2
          · exact hs.hi.free (b := g) (by omega)
        · by_cases hji : j < ns.length
          · rw [List.getElem_append_left hji]
            rcases h1.told j hji hj' with h2 | ⟨k, h2, h3⟩
            · exact .inl h2
            · exact .inr ⟨k, h2, by rw [d2]; exact h3.pre r⟩
          · have hje : j = ns.length := by
              rw [List.length_append, List.length_singleton] at hj
              omega
            subst hje
            rw [List.getElem_append_right (Nat.le_refl _)]
            simp only [Nat.sub_self, List.getElem_cons_zero, h1.nl]
            exact d4
      have HROW : Hid (∀ role2 w5, Moved role wr role2 w5 → (w5.alloc (.cells #[.int .i64 (numOf' ds l[i])] 3)).ownsRow w.heap.size 3 1 (.slice ra i rc) i (intsI ns) ∧ w.heap.size ≤ w5.heap.size) := fun role2 w5 hm => by
        have h1 := HI.out
        refine ⟨ownsRow_below (ownsRow_to h1.row fun g hg => (hm.block (h1.row.lt g hg).2 (h1.rowfree g hg)).1) (below1 _ _), Nat.le_trans h1.below.size hm.size⟩
      generalize l[i] = p at c0 HD HNX HROW
      unfold DirPost at HD
      simp only [] at HD
      obtain ⟨i3, hi3, hz30, hz31, hz32⟩ := info_parts info3
      by_cases he : dirErr ds p = 0
      · have hno : numOf' ds p = ((dirRun ds p).2 : Int) := if_pos he
        rw [hno] at HNX HROW
        rw [he] at HD
        replace he := Lib.hid he
        replace hno := Lib.hid hno
        generalize (dirRun ds p).2 = dn at HNX HROW HD
        generalize (dirRun ds p).1 = dds at HNX HD
        go_wp2_with (first | (go_at_call 12; refine HD.out.mono ?_; rintro e w5 ⟨rfl, role2, vd2, hm2, hs2⟩) | (at_builtin; refine wpList_append_lies _ rfl (.tmp 44) (.tmp 46) 28 rfl w.heap.size 3 i3 (.int .i64 0) 1 8 Tryd.underlying28 hi3 hz30 hz31 hz32 rfl (by decide) (.slice ra i rc) i (intsI ns) rfl (HROW.out _ _ hm2).1 ⟨w5.heap.size, 0, none⟩ 1 1 [.int .i64 (dn : Int)] rfl rfl (World.news_of_block (cs := #[.int .i64 (dn : Int)]) (t := 3) (fr := (0, 0)) (heap_alloc_new w5 _)) (by simp [Value.oneCell']) (by omega) (by unfold maxLen; omega) (by omega) (Nat.le_trans (HROW.out _ _ hm2).2 (by simp)) (w5.heap.size + 1) (by simp) ?_; intro g cap w7 hown7 hgrow7 hat7 hlt7))
        have HFIN := Lib.hid (HNX.out _ _ _ hm2 hs2 _ _ _ hown7 hgrow7 hat7 hlt7)
        clear hown7 hgrow7 hat7 hlt7 hm2 hs2 HNX HROW HD
        go_roundw
        case rel => exact ⟨i + 1, by go_num, by omega, HFIN.out⟩
        case measure => simp [intOf]; omega
      · have hno : numOf' ds p = -1 := if_neg he
        rw [hno] at HNX HROW
        have hne0 : (dirErr ds p != 0) = true := by simpa using he
        replace he := Lib.hid he
        replace hno := Lib.hid hno
        generalize (dirRun ds p).2 = dn at HD
        generalize (dirRun ds p).1 = dds at HNX HD
        generalize dirErr ds p = de at HD hne0
        go_wp2_with (first | (go_at_call 12; refine HD.out.mono ?_; rintro e w5 ⟨rfl, role2, vd2, hm2, hs2⟩) | (at_builtin; refine wpList_append_lies _ rfl (.tmp 44) (.tmp 46) 28 rfl w.heap.size 3 i3 (.int .i64 0) 1 8 Tryd.underlying28 hi3 hz30 hz31 hz32 rfl (by decide) (.slice ra i rc) i (intsI ns) rfl (HROW.out _ _ hm2).1 ⟨w5.heap.size, 0, none⟩ 1 1 [.int .i64 (-1)] rfl rfl (World.news_of_block (cs := #[.int .i64 (-1)]) (t := 3) (fr := (0, 0)) (heap_alloc_new w5 _)) (by simp [Value.oneCell']) (by omega) (by unfold maxLen; omega) (by omega) (Nat.le_trans (HROW.out _ _ hm2).2 (by simp)) (w5.heap.size + 1) (by simp) ?_; intro g cap w7 hown7 hgrow7 hat7 hlt7))
        have HFIN := Lib.hid (HNX.out _ _ _ hm2 hs2 _ _ _ hown7 hgrow7 hat7 hlt7)
        clear hown7 hgrow7 hat7 hlt7 hm2 hs2 HNX HROW HD
        go_roundw
        case rel => exact ⟨i + 1, by go_num, by omega, HFIN.out⟩
        case measure => simp [intOf]; omega
    · have hi1 : ¬ (i : Int) < (N : Int) := by omega
      have hie : i = N := by omega
      subst hie
      go_wp2_with fail
      go_loopw [9] (fun v9 wx => ∃ j : Nat, v9 = .int .i64 j ∧ j ≤ i ∧ Hid (∃ role vd, DirsInv w S K V L l i (.slice ra i rc) wx role vd ds ns)) (fun v9 _ => i - (intOf v9).toNat)
      case atStart => exact ⟨0, rfl, Nat.zero_le _, role, vd, HI.out⟩
      case round =>
        obtain ⟨wo, rfl⟩ : ∃ wo : World, wo = wr := ⟨_, rfl⟩
        obtain ⟨j, rfl, hj, HX⟩ := hrel
        clear HI role vd
        obtain ⟨role, vd, hI⟩ := HX.out
        clear HX
        have HI := Lib.hid hI
        clear hI
        by_cases hlt2 : j < i
        · have hj1 : (j : Int) < (i : Int) := by omega
          have hjn : j < ns.length := by rw [HI.out.nl]; exact hlt2
          have hjl : j < l.length := by have := hln.out; omega
          obtain ⟨g, cap, hf, _⟩ := (ownsRow_form HI.out.row).resolve_left (fun h => by have := h.2; omega)
          cases hf
          have r0 : wo.cell? ⟨g, j, none⟩ = some (.int .i64 ns[j]) := ownsRow_cell HI.out.row (by unfold intsI; simp [hjn])
          have HR0 : Hid (∀ w' role vd, DirsInv w S K V L l i (.slice (some ⟨g, 0, none⟩) i rc) w' role vd ds ns → w'.cell? ⟨g, j, none⟩ = some (.int .i64 ns[j])) := fun w' role vd h => ownsRow_cell h.row (by unfold intsI; simp [hjn])
          have HT := Lib.hid (HI.out.told j hjn hjl)
          have hne : l ≠ [] := fun e => by rw [e] at hjl; exact absurd hjl (Nat.not_lt_zero _)
          obtain ⟨a', c', he, hsz, _, hin⟩ := HL.out
          obtain ⟨b, off, hab, hbS, hcells⟩ := hin hne
          have haa : a = a' := by injection he
          rw [← haa] at hab
          clear haa
          subst hab
          have HC : Hid (∀ W, Below w.heap.size w W → W.cell? ⟨b, off + j, none⟩ = some (.string l[j])) := fun W hW => cell_blk (hW.block b hbS) (hcells j hjl)
          clear hin hcells he
          replace hsz := Lib.hid hsz
          replace hbS := Lib.hid hbS
          generalize l[j] = p at HT HC
          generalize ns[j] = nj at r0 HT HR0
          rcases HT.out with hneg | ⟨k, hk, hfix⟩
          · subst hneg
            clear HT HC HR0
            go_wp2_with fail
            go_roundw
            case rel => exact ⟨j + 1, by go_num, by omega, role, vd, HI.out⟩
            case measure => simp [intOf]; omega
          · subst hk
            clear HT
            have hk0 : ¬ (k : Int) < 0 := by omega
            obtain ⟨u, hdk⟩ := hfix.at_
            have hans : pathAns ds (k : Int) = .tuple #[.string p, .int .i64 (u : Int), .int .i64 0] := by
              unfold pathAns
              rw [if_pos (by omega), Int.toNat_natCast, hdk]
              show Value.tuple #[.string (mkB (bs p)), _, _] = _
              rw [show mkB (bs p) = p from bs_inj rfl]
            have HP : Hid (Calls Tryd.prog 13 #[.pointer (some ⟨S, 0, none⟩), .int .i64 (k : Int)] wo fun e w' => e = .returned (.tuple #[.string p, .int .i64 (u : Int), .int .i64 0]) ∧ DirsInv w S K V L l i (.slice (some ⟨g, 0, none⟩) i rc) w' role vd ds ns) := by
              have := path_c HI.out.store (by have := HI.out.len; show ds.length ≤ 3000; omega) (k : Int)
              rw [show pathAns ({ st0 with dirs := ds } : StT).dirs (k : Int) = pathAns ds (k : Int) from rfl, hans] at this
              exact this.mono fun e w' ⟨h1, h2⟩ => ⟨h1, HI.out.keep h2⟩
            have HD : Hid (∀ w', DirsInv w S K V L l i (.slice (some ⟨g, 0, none⟩) i rc) w' role vd ds ns → Calls Tryd.prog 12 #[.pointer (some ⟨S, 0, none⟩), .string p] w' fun e w'' => e = .returned (.tuple #[.int .i64 (k : Int), .int .i64 0]) ∧ ∃ role2 vd2, DirsInv w S K V L l i (.slice (some ⟨g, 0, none⟩) i rc) w'' role2 vd2 ds ns) := fun w' h => by
              obtain ⟨e1, e2⟩ := dir_again h.len h.ok hfix
              have := dir_c h.store h.below.size h.len p
              refine this.mono fun e w'' hh => ?_
              unfold DirPost at hh
              simp only [] at hh
              rw [e1, e2] at hh
              obtain ⟨h1, role2, vd2, h2, h3⟩ := hh
              exact ⟨h1, role2, vd2, h.moved h2 h3⟩
            have hpp : (p.toList != p.toList) = false := by simp
            have hkk : ((k : Int) != (k : Int)) = false := by simp
            have HR : Hid (∀ w' role vd, DirsInv w S K V L l i (.slice (some ⟨g, 0, none⟩) i rc) w' role vd ds ns → w'.cell? ⟨g, j, none⟩ = some (.int .i64 (k : Int)) ∧ w'.cell? ⟨b, off + j, none⟩ = some (.string p)) := fun w' role vd h => by
              exact ⟨HR0.out w' role vd h, HC.out w' h.below⟩
            go_upto_region 19 with (first | (go_at_call 13; refine HP.out.mono ?_; rintro e w3 ⟨rfl, hI3⟩; obtain ⟨r3, q3⟩ := HR.out _ _ _ hI3) | (go_at_call 12; refine (HD.out _ hI3).mono ?_; rintro e w4 ⟨rfl, role4, vd4, hI4⟩; obtain ⟨r4, q4⟩ := HR.out _ _ _ hI4))
            have HI4 := Lib.hid hI4
            clear hI4 hI3 HP HD q3 r3 HI
            by_cases hk00 : k = 0
            · subst hk00
              clear HR HR0 HC
              go_wp2_with fail
              go_roundw
              case rel => exact ⟨j + 1, by go_num, by omega, role4, vd4, HI4.out⟩
              case measure => simp [intOf]; omega
            · have hk01 : ((k : Int) == 0) = false := by simpa using hk00
              obtain ⟨hup, e, part, hde, hp1, hp2, hp3⟩ := HI4.out.ok.up k _ hdk hk00
              have hup1 : (u : Int) < (k : Int) := by
                have : u < k := hup
                omega
              have hge : ¬ (k : Int) ≤ (u : Int) := by omega
              have hans2 : pathAns ds (u : Int) = .tuple #[.string (mkB e.1), .int .i64 (e.2 : Int), .int .i64 0] := by
                unfold pathAns
                rw [if_pos (by omega), Int.toNat_natCast, hde]
              have HP2 : Hid (Calls Tryd.prog 13 #[.pointer (some ⟨S, 0, none⟩), .int .i64 (u : Int)] w4 fun e' w' => e' = .returned (.tuple #[.string (mkB e.1), .int .i64 (e.2 : Int), .int .i64 0]) ∧ DirsInv w S K V L l i (.slice (some ⟨g, 0, none⟩) i rc) w' role4 vd4 ds ns) := by
                have := path_c HI4.out.store (by have := HI4.out.len; show ds.length ≤ 3000; omega) (u : Int)
                rw [show pathAns ({ st0 with dirs := ds } : StT).dirs (u : Int) = pathAns ds (u : Int) from rfl, hans2] at this
                exact this.mono fun e w' ⟨h1, h2⟩ => ⟨h1, HI4.out.keep h2⟩
              replace hup := Lib.hid hup
              replace hde := Lib.hid hde
              replace hdk := Lib.hid hdk
              go_upto_region 25 with (go_at_call 13; refine HP2.out.mono ?_; rintro e' w5 ⟨rfl, hI5⟩; obtain ⟨r5, q5⟩ := HR.out _ _ _ hI5)
              have HI5 := Lib.hid hI5
              clear hI5 HP2 HI4 HR HR0 HC r4 q4 r5 q5 hans2
              have hpl : 1 ≤ part.length := by
                cases part with
                | nil => exact absurd rfl hp1
                | cons x t => simp
              have hp200 : p.size ≤ 200 := by
                obtain ⟨l', h1, _⟩ := hfix
                rcases upsL_some h1 with ⟨h2, _⟩ | ⟨_, _, _, _, h2, _⟩
                · rw [← bs_len, h2]
                  decide
                · exact h2
              obtain ⟨X, hX⟩ : ∃ X, mkB e.1 = X := ⟨_, rfl⟩
              rw [hX]
              replace hfix := Lib.hid hfix
              by_cases hroot : e.1 = [47]
              · have hrt : (X.toList == [47]) = true := by rw [← hX, toList_bs, bs_mkB, hroot]; rfl
                have hbp : bs p = 47 :: part := by
                  have h0 : bs p = noRoot e.1 ++ 47 :: part := hp3
                  rw [h0, hroot]
                  rfl
                have hsz : p.size = part.length + 1 := by rw [← bs_len, hbp]; rfl
                have hs1 : 1 < (p.size : Int) := by omega
                have hs1' : 1 ≤ (p.size : Int) := by omega
                have hex : ((p.extract 0 1).toList == ((⟨#[]⟩ : ByteArray) ++ ⟨#[47]⟩).toList) = true := by
                  rw [toList_bs, toList_bs, bs_extract0, hbp, bs_app]
                  rfl
                have HNO : Hid (∀ m, 1 ≤ m → (h : m < p.size) → p[m]'h ≠ 47) := fun m h1 h => by
                  show (bs p)[m]'(by rw [bs_len]; exact h) ≠ 47
                  simp only [hbp]
                  obtain ⟨m', rfl⟩ : ∃ m', m = m' + 1 := ⟨m - 1, by omega⟩
                  rw [List.getElem_cons_succ]
                  exact fun hh => hp2 (hh ▸ List.getElem_mem _)
                replace hp3 := Lib.hid hp3
                replace hroot := Lib.hid hroot
                replace hX := Lib.hid hX
                replace hbp := Lib.hid hbp
                replace hsz := Lib.hid hsz
                replace hp2 := Lib.hid hp2
                replace hp1 := Lib.hid hp1
                go_wp2_with fail
                go_loopw [18] (fun v18 wx => ∃ m : Nat, v18 = .int .i64 m ∧ 1 ≤ m ∧ m ≤ p.size ∧ wx = w5) (fun v18 _ => p.size - (intOf v18).toNat)
                case atStart => exact ⟨1, rfl, Nat.le_refl _, by omega, rfl⟩
                case round =>
                  obtain ⟨wp', rfl⟩ : ∃ wp' : World, wp' = wr := ⟨_, rfl⟩
                  obtain ⟨m, rfl, hm1, hm2, rfl⟩ := hrel
                  by_cases hltm : m < p.size
                  · have hm3 : (m : Int) < (p.size : Int) := by omega
                    have hno := Lib.hid (HNO.out m hm1 hltm)
                    have h47 : (((p[m]'hltm).toNat : Int) == 47) = false := by
                      rw [beq_eq_false_iff_ne]
                      intro h
                      exact hno.out (UInt8.toNat_inj.1 (by show (p[m]'hltm).toNat = 47; omega))
                    go_wp2_with fail
                    go_roundw
                    case rel => exact ⟨m + 1, by go_num, by omega, by omega, by trivial⟩
                    case measure => simp [intOf]; omega
                  · have hm3 : ¬ (m : Int) < (p.size : Int) := by omega
                    go_wp2_with fail
                    go_roundw
                    case rel => exact ⟨j + 1, by go_num, by omega, role4, vd4, HI5.out⟩
                    case measure => simp [intOf]; omega
              · have hrt : (X.toList == [47]) = false := by
                  rw [← hX, toList_bs, bs_mkB]
                  simpa using hroot
                have hbp : bs p = bs X ++ 47 :: part := by
                  have h0 : bs p = noRoot e.1 ++ 47 :: part := hp3
                  rw [h0, ← hX, bs_mkB]
                  unfold noRoot
                  rw [if_neg hroot]
                have hsz : p.size = X.size + 1 + part.length := by rw [← bs_len, hbp, List.length_append, List.length_cons, bs_len]; omega
                have hs1 : ¬ (p.size : Int) ≤ (X.size : Int) + 1 := by omega
                have hs1' : (X.size : Int) + 1 ≤ (p.size : Int) := by omega
                have hex : ((p.extract 0 (X.size + 1)).toList == (X ++ (⟨#[47]⟩ : ByteArray)).toList) = true := by
                  rw [toList_bs, toList_bs, bs_extract0, hbp, bs_app]
                  have : (bs X ++ 47 :: part).take (X.size + 1) = bs X ++ [47] := by
                    rw [show bs X ++ 47 :: part = (bs X ++ [47]) ++ part by simp, List.take_left' (by rw [List.length_append, bs_len]; rfl)]
                  rw [this]
                  exact beq_self_eq_true _
                have HNO : Hid (∀ m, X.size + 1 ≤ m → (h : m < p.size) → p[m]'h ≠ 47) := fun m h1 h => by
                  show (bs p)[m]'(by rw [bs_len]; exact h) ≠ 47
                  simp only [hbp]
                  rw [List.getElem_append_right (by rw [bs_len]; omega)]
                  obtain ⟨m', hm'⟩ : ∃ m', m - (bs X).length = m' + 1 := ⟨m - (bs X).length - 1, by rw [bs_len]; omega⟩
                  simp only [hm', List.getElem_cons_succ]
                  exact fun hh => hp2 (hh ▸ List.getElem_mem _)
                replace hp3 := Lib.hid hp3
                replace hroot := Lib.hid hroot
                replace hX := Lib.hid hX
                replace hbp := Lib.hid hbp
                replace hp2 := Lib.hid hp2
                replace hp1 := Lib.hid hp1
                have hX200 : X.size ≤ 200 := by omega
                replace hsz := Lib.hid hsz
                go_wp2_with fail
                go_loopw [18] (fun v18 wx => ∃ m : Nat, v18 = .int .i64 m ∧ X.size + 1 ≤ m ∧ m ≤ p.size ∧ wx = w5) (fun v18 _ => p.size - (intOf v18).toNat)
                case atStart => exact ⟨X.size + 1, by go_num, Nat.le_refl _, by omega, rfl⟩
                case round =>
                  obtain ⟨wp', rfl⟩ : ∃ wp' : World, wp' = wr := ⟨_, rfl⟩
                  obtain ⟨m, rfl, hm1, hm2, rfl⟩ := hrel
                  by_cases hltm : m < p.size
                  · have hm3 : (m : Int) < (p.size : Int) := by omega
                    have hno := Lib.hid (HNO.out m hm1 hltm)
                    have h47 : (((p[m]'hltm).toNat : Int) == 47) = false := by
                      rw [beq_eq_false_iff_ne]
                      intro h
                      exact hno.out (UInt8.toNat_inj.1 (by show (p[m]'hltm).toNat = 47; omega))
                    go_wp2_with fail
                    go_roundw
                    case rel => exact ⟨m + 1, by go_num, by omega, by omega, by trivial⟩
                    case measure => simp [intOf]; omega
                  · have hm3 : ¬ (m : Int) < (p.size : Int) := by omega
                    go_wp2_with fail
                    go_roundw
                    case rel => exact ⟨j + 1, by go_num, by omega, role4, vd4, HI5.out⟩
                    case measure => simp [intOf]; omega
        · have hj1 : ¬ (j : Int) < (i : Int) := by omega
          go_wp2_with fail
          go_ret
          exact ⟨rfl, HI.out.below⟩
end Go.Proofs.YtnplmembdfklcaaDoor
