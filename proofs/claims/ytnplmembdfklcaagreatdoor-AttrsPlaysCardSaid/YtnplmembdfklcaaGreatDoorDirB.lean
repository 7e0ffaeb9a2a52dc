/-
  Dir: the walk. Helper text; the conditions are those typed.
-/
import Derived.Test.YtnplmembdfklcaaGreatDoorDirLaw
import Derived.Test.YtnplmembdfklcaaGreatDoorQuietTail
import Derived.Deep.Cut
import Derived.Deep.CutRange
import Derived.Deep.CutBlock
import Derived.Deep.RegionLaw
import Derived.Deep.AppendLies
namespace Go.Proofs.YtnplmembdfklcaaGreatDoor
set_option linter.unusedVariables false
set_option linter.unusedSimpArgs false
open Go.RowKit Go.Maps

theorem runD_cons (ds : List (List UInt8 × Nat)) (u : Nat) (p : List UInt8) (l : List (List UInt8)) : runD ds u (p :: l) = match idxD ds p with
    | some n => runD ds n l
    | none => runD (ds ++ [(p, u)]) ds.length l := rfl
section
variable {w w' : World} {B : Nat} {role role' : Nat → Role} {S K V L : Nat} {vk vd : Value} {ib : Int → Option Nat} {sl : Int → ByteArray → Value} {n : Nat} {st : StT}
theorem StoreIn.look (h : StoreIn w B role S K V L vk vd ib sl n st) {p : List UInt8} (hp : p.length ≤ 200) :
    (Instr.lookup 57 (.map (some L)) (.string (mkB p)) true).run Tryz.prog w = .ok (.tuple #[.int .i64 (((idxD st.dirs p).getD 0 : Nat) : Int), .bool (idxD st.dirs p).isSome]) w := by
  have hs : (mkB p).size ≤ maxLen := Nat.le_trans (by rw [← bs_len, bs_mkB]; exact hp) (by decide)
  rw [h.places.run_look_ok keyed9 Tryz.underlying57 (Tryz.zeroValue3 w) (key9 hs)]
  have : placesF st.dirs (.string (mkB p)) = (idxD st.dirs p).map fun (i : Nat) => Value.int .i64 (i : Int) := rfl
  rw [this]
  cases idxD st.dirs p <;> rfl
/-- What Dir leaves. -/
def DirPost (role : Nat → Role) (w : World) (B S K V L : Nat) (vk : Value) (ib : Int → Option Nat) (sl : Int → ByteArray → Value) (n : Nat) (st : StT) (p : ByteArray) (e : Ending) (w' : World) : Prop :=
  e = .returned (.tuple #[.int .i64 ((dirRun st.dirs p).2 : Int), .int .i64 (dirErr st.dirs p)]) ∧ ∃ role' vd', Moved role w role' w' ∧ StoreIn w' B role' S K V L vk vd' ib sl n { st with dirs := (dirRun st.dirs p).1 }

set_option maxHeartbeats 4000000 in
set_option maxRecDepth 100000 in
theorem dir_c (h : StoreIn w B role S K V L vk vd ib sl n st) (hB : B ≤ w.heap.size) (hd : st.dirs.length ≤ 2000) (p : ByteArray) :
    Calls Tryz.prog 15 #[.pointer (some ⟨S, 0, none⟩), .string p] w (DirPost role w B S K V L vk ib sl n st p) := by
  have HU := Lib.hid (ups_c p w)
  have HH := Lib.hid h
  have HB0 := Lib.hid hB
  cases hu : upsL p with
  | none =>
    have HE : Hid (∀ w', Below w.heap.size w w' → DirPost role w B S K V L vk ib sl n st p (.returned (.tuple #[.int .i64 0, .int .i64 85])) w') := fun w' hb => by
      have he : dirErr st.dirs p = 85 := by unfold dirErr; rw [hu]
      have hr : dirRun st.dirs p = (st.dirs, 0) := by unfold dirRun; rw [he]; rfl
      unfold DirPost
      rw [he, hr]
      exact ⟨rfl, role, vd, Moved.of_below HH.out.hi hb, HH.out.below HB0.out hb⟩
    obtain ⟨Q, hQ⟩ : ∃ Q, DirPost role w B S K V L vk ib sl n st p = Q := ⟨_, rfl⟩
    rw [hQ] at HE ⊢
    have HU1 : Hid (Calls Tryz.prog 37 #[.string p] w fun e w' => e = .returned (.tuple #[.slice none 0 0, .bool false]) ∧ Below w.heap.size w w') := by
      refine HU.out.mono ?_
      rintro e w1 ⟨hp1, hb1⟩
      rw [hu] at hp1
      exact ⟨hp1, hb1⟩
    replace hu := Lib.hid hu
    clear hQ h hB HU
    go_enter Tryz.func15, Tryz.ntmps15
    go_wp2_with (go_at_call 37; refine HU1.out.mono ?_; rintro e w1 ⟨rfl, hb1⟩)
    exact HE.out _ hb1
  | some l =>
    obtain ⟨hlx, hl201⟩ := upsL_size hu
    have HU1 : Hid (Calls Tryz.prog 37 #[.string p] w fun e w' => (∃ al cl, e = .returned (.tuple #[.slice al l.length cl, .bool true]) ∧ w'.ownsRow w.heap.size 9 1 (.slice al l.length cl) l.length (strsL l)) ∧ Below w.heap.size w w') := by
      refine HU.out.mono ?_
      rintro e w1 ⟨hp1, hb1⟩
      rw [hu] at hp1
      obtain ⟨v, rfl, hv⟩ := hp1
      obtain ⟨al, cl, rfl⟩ := ownsRow_slice hv
      exact ⟨⟨al, cl, rfl, hv⟩, hb1⟩
    have HEQ : Hid (dirErr st.dirs p = (if 2000 < st.dirs.length + l.length - knownD st.dirs l then 83 else 0)) := by
      unfold dirErr
      rw [hu]
      exact rfl
    have HNO : Hid (2000 < st.dirs.length + l.length - knownD st.dirs l → ∀ w' role' vd', Moved role w role' w' → StoreIn w' B role' S K V L vk vd' ib sl n st → DirPost role w B S K V L vk ib sl n st p (.returned (.tuple #[.int .i64 0, .int .i64 83])) w') := fun hk w' role' vd' hm hs => by
      have he : dirErr st.dirs p = 83 := by rw [HEQ.out, if_pos hk]
      have hr : dirRun st.dirs p = (st.dirs, 0) := by unfold dirRun; rw [he]; rfl
      unfold DirPost
      rw [he, hr]
      exact ⟨rfl, role', vd', hm, hs⟩
    have HYES : Hid (¬ 2000 < st.dirs.length + l.length - knownD st.dirs l → ∀ ds u, runD st.dirs 0 l = (ds, u) → ∀ w' role' vd', Moved role w role' w' → StoreIn w' B role' S K V L vk vd' ib sl n { st with dirs := ds } → DirPost role w B S K V L vk ib sl n st p (.returned (.tuple #[.int .i64 (u : Int), .int .i64 0])) w') := fun hk ds u hdu w' role' vd' hm hs => by
      have he : dirErr st.dirs p = 0 := by rw [HEQ.out, if_neg hk]
      have hr : dirRun st.dirs p = (ds, u) := by unfold dirRun; rw [he, if_pos rfl, hu]; exact hdu
      unfold DirPost
      rw [he, hr]
      exact ⟨rfl, role', vd', hm, hs⟩
    obtain ⟨Q, hQ⟩ : ∃ Q, DirPost role w B S K V L vk ib sl n st p = Q := ⟨_, rfl⟩
    rw [hQ] at HNO HYES ⊢
    have hKl : knownD st.dirs l ≤ l.length := knownD_le _ _
    obtain ⟨N, hN⟩ : ∃ N, l.length = N := ⟨_, rfl⟩
    obtain ⟨D, hD⟩ : ∃ D, st.dirs.length = D := ⟨_, rfl⟩
    obtain ⟨k0, hk0⟩ : ∃ k0, knownD st.dirs l = k0 := ⟨_, rfl⟩
    have HK : Hid (∀ i, i ≤ N → (∀ j (h : j < l.length), j < i → (idxD st.dirs l[j]).isSome = true) → ((h : i < l.length) → (idxD st.dirs l[i]).isSome = false) → i = k0) := fun i h1 h2 h3 => by
      rw [← hk0]
      exact (knownD_all st.dirs l i (by rw [hN]; exact h1) h2 h3).symm
    rw [hN] at HU1 hl201 HNO HYES hKl
    rw [hD] at hd HNO HYES
    rw [hk0] at hKl HNO HYES
    replace hu := Lib.hid hu
    replace hlx := Lib.hid hlx
    replace hN := Lib.hid hN
    replace hD := Lib.hid hD
    replace hk0 := Lib.hid hk0
    clear hQ h hB HU HEQ
    go_enter Tryz.func15, Tryz.ntmps15
    go_upto_block 0 with (go_at_call 37; refine HU1.out.mono ?_; rintro e w1 ⟨⟨al, cl, rfl, hrow⟩, hb1⟩)
    have HB1 := Lib.hid hb1
    have HR1 := Lib.hid hrow
    have HS1 := Lib.hid (HH.out.below HB0.out hb1)
    clear hb1 hrow HU1
    have b4 := HS1.out.box.cell (j := 4) rfl
    go_cut [8, 9, 10] from 25 (fun v8 _ _ wx => v8 = .int .i64 (k0 : Int) ∧ ∃ q, wx = w1.drewN q)
    case first =>
      go_wp2_with fail
      go_loopw [8] (fun v8 wr => ∃ i q : Nat, v8 = .int .i64 i ∧ i ≤ N ∧ Hid (∀ j (hj : j < l.length), j < i → (idxD st.dirs l[j]).isSome = true) ∧ wr = w1.drewN q) (fun v8 _ => N - (intOf v8).toNat)
      case atStart => exact ⟨0, 0, rfl, Nat.zero_le _, fun j h h0 => absurd h0 (Nat.not_lt_zero _), rfl⟩
      case round =>
        obtain ⟨i, q, rfl, hin, HG, rfl⟩ := hrel
        have hk : (w1.drewN q).heap = w1.heap := rfl
        replace hk := Lib.hid hk
        by_cases hlt : i < N
        · have hi1 : (i : Int) < (N : Int) := by omega
          have hlen : i < l.length := by have := hN.out; omega
          obtain ⟨g, cap, he, _⟩ := (ownsRow_form HR1.out).resolve_left (fun h => by have := h.2; omega)
          cases he
          have c0 : w1.cell? ⟨g, i, none⟩ = some (.string (mkB l[i])) := ownsRow_cell HR1.out (by unfold strsL; simp [hlen])
          have HL := Lib.hid (fun (W : World) (hW : Below w1.heap.size w1 W) => (HS1.out.below (Nat.le_trans HB0.out HB1.out.size) hW).look (hlx.out l[i] (List.getElem_mem _)))
          have HGY : Hid ((idxD st.dirs l[i]).isSome = true → ∀ j (hj : j < l.length), j < i + 1 → (idxD st.dirs l[j]).isSome = true) := fun h j hj hji => by
            rcases Nat.lt_succ_iff_lt_or_eq.1 hji with h1 | h1
            · exact HG.out j hj h1
            · subst h1; exact h
          have HGN : Hid ((idxD st.dirs l[i]).isSome = false → i = k0) := fun h => HK.out i hin HG.out (fun _ => h)
          generalize l[i] = x at c0 HL HGY HGN
          generalize (idxD st.dirs x).isSome = b at HL HGY HGN
          generalize (idxD st.dirs x).getD 0 = j at HL
          clear HG
          go_upto_region 8 with fail
          refine wp_quiet_all (by kernel_rfl) (by kernel_rfl) ?_
          intro wd hwd
          have hwb : Hid (Below w1.heap.size w1 wd) := by rw [hwd.out]; exact below_dr1 (below_dr (Below.refl _ _) _)
          have b4' : wd.cell? ⟨S, 4, none⟩ = some (.map (some L)) := (cell_heap (by rw [hwd.out]; rfl) _).trans b4
          have c0' : wd.cell? ⟨g, i, none⟩ = some (.string (mkB x)) := (cell_heap (by rw [hwd.out]; rfl) _).trans c0
          have hl' := HL.out wd hwb.out
          repeat (go_big_quiet_step (fail))
          refine wpQuiet_nil ?_
          intro w' hw'
          rw [hw', hwd.out]
          clear hw' w'
          clear hl' c0' b4' hwd wd hwb
          cases b with
          | true =>
            go_wp2_with fail
            go_roundw
            case rel => exact ⟨i + 1, q + 1, by go_num, by omega, HGY.out rfl, rfl⟩
            case measure => simp [intOf]; omega
          | false =>
            have hik := HGN.out rfl
            subst hik
            go_wp2_with fail
            go_meet
            exact ⟨rfl, q + 1, rfl⟩
        · have hi1 : ¬ (i : Int) < (N : Int) := by omega
          have hik : i = k0 := HK.out i hin HG.out (fun h => absurd h (by have := hN.out; omega))
          subst hik
          go_wp2_with fail
          go_meet
          exact ⟨rfl, q, rfl⟩
    case rest =>
      obtain ⟨rfl, q, rfl⟩ := hcut
      have HBq : Hid (Below w.heap.size w (w1.drewN q)) := below_dr HB1.out q
      have HRq : Hid ((w1.drewN q).ownsRow w.heap.size 9 1 (.slice al N cl) N (strsL l)) := ownsRow_below HR1.out (below_dr (Below.refl _ _) q)
      have HSq := Lib.hid (HS1.out.below (Nat.le_trans HB0.out HB1.out.size) (below_dr (Below.refl _ _) q))
      clear HB1 HR1 HS1 b4
      generalize w1.drewN q = w2 at HBq HRq HSq
      clear HK
      obtain ⟨vda, vdc, hvd⟩ := HSq.out.dirs_slice
      rw [hD.out] at hvd
      subst hvd
      have b3 := HSq.out.box.cell (j := 3) rfl
      by_cases hbig : 2000 < (D : Int) + (N : Int) - (k0 : Int)
      · go_wp2_with fail
        exact HNO.out (by omega) _ _ _ (Moved.of_below HH.out.hi HBq.out) HSq.out
      · replace HYES := Lib.hid (HYES.out (by omega))
        clear HNO
        go_wp2_with fail
        clear b3
        go_loopw [11, 58] (fun vu vi wr => ∃ (i u : Nat), vi = .int .i64 i ∧ vu = .int .i64 u ∧ i ≤ N ∧ Hid (∃ ds role2 vd2, runD st.dirs 0 l = runD ds u (l.drop i) ∧ ds.length ≤ D + i ∧ Moved role w2 role2 wr ∧ StoreIn wr B role2 S K V L vk vd2 ib sl n { st with dirs := ds })) (fun _ vi _ => N - (intOf vi).toNat)
        case atStart => exact ⟨0, 0, rfl, rfl, Nat.zero_le _, st.dirs, role, _, rfl, by rw [hD.out]; exact Nat.le_refl _, Moved.of_below HSq.out.hi (Below.refl _ _), HSq.out⟩
        case round =>
          obtain ⟨i, u, rfl, rfl, hin, HX⟩ := hrel
          obtain ⟨ds, role2, vd2, hrun, hdl, hm, hs⟩ := HX.out
          clear HX
          by_cases hlt : i < N
          · have hi1 : (i : Int) < (N : Int) := by omega
            have hlen : i < l.length := by have := hN.out; omega
            obtain ⟨g, cap, he, _⟩ := (ownsRow_form HRq.out).resolve_left (fun h => by have := h.2; omega)
            cases he
            have hgfree : role g = .free := HH.out.hi.free (HRq.out.lt g rfl).1
            have hrw : wr.ownsRow w.heap.size 9 1 (.slice (some ⟨g, 0, none⟩) N cl) N (strsL l) := ownsRow_to HRq.out fun g' hg' => by
              cases hg'
              exact (hm.block (HRq.out.lt g rfl).2 hgfree).1
            have c0 : wr.cell? ⟨g, i, none⟩ = some (.string (mkB l[i])) := ownsRow_cell hrw (by unfold strsL; simp [hlen])
            have hlk := hs.look (hlx.out l[i] (List.getElem_mem _))
            have hdrop : l.drop i = l[i] :: l.drop (i + 1) := List.drop_eq_getElem_cons hlen
            rw [hdrop] at hrun
            have hmx : (mkB l[i]).size ≤ maxLen := Nat.le_trans (by rw [← bs_len, bs_mkB]; exact hlx.out l[i] (List.getElem_mem _)) (by decide)
            replace hmx := Lib.hid hmx
            generalize l[i] = x at c0 hlk hrun hmx
            clear hdrop
            have b4 := hs.box.cell (j := 4) rfl
            replace hm := Lib.hid hm
            replace hs := Lib.hid hs
            rw [runD_cons] at hrun
            cases hidx : idxD ds x with
            | some k =>
              have hlk' : (Instr.lookup 57 (.map (some L)) (.string (mkB x)) true).run Tryz.prog wr = .ok (.tuple #[.int .i64 (k : Int), .bool true]) wr := by rw [hlk]; simp [hidx]
              rw [hidx] at hrun
              replace hrun := Lib.hid hrun
              clear hlk
              replace hidx := Lib.hid hidx
              go_wp2_with fail
              go_roundw
              case rel => exact ⟨i + 1, k, by go_num, rfl, by omega, ds, role2, vd2, hrun.out, by omega, hm.out, hs.out⟩
              case measure => simp [intOf]; omega
            | none =>
              have hlk' : (Instr.lookup 57 (.map (some L)) (.string (mkB x)) true).run Tryz.prog wr = .ok (.tuple #[.int .i64 0, .bool false]) wr := by rw [hlk]; simp [hidx]
              rw [hidx] at hrun
              replace hrun := Lib.hid hrun
              clear hlk
              replace hidx := Lib.hid hidx
              obtain ⟨M, hM⟩ : ∃ M, ds.length = M := ⟨_, rfl⟩
              obtain ⟨va, vc, hv2⟩ := hs.out.dirs_slice
              replace hv2 : vd2 = .slice va M vc := by rw [hv2, ← hM]
              subst hv2
              rw [hM] at hdl
              replace hM := Lib.hid hM
              have b3 := hs.out.box.cell (j := 3) rfl
              obtain ⟨i52, hi52, hz520, hz521, hz522⟩ := info_parts info52
              obtain ⟨W0, hW0⟩ : ∃ W0, wr.alloc (.cells #[.string (mkB x), .int .i64 (u : Int)] 60) = W0 := ⟨_, rfl⟩
              have hBW : Hid (B ≤ wr.heap.size) := Nat.le_trans HB0.out (Nat.le_trans HBq.out.size hm.out.size)
              have HW0 : Hid (Below wr.heap.size wr W0 ∧ BoxN W0 wr.heap.size [.string (mkB x), .int .i64 (u : Int)] 60 ∧ W0.heap.size = wr.heap.size + 1) := by
                rw [← hW0]
                exact ⟨below1 _ _, boxN_alloc _ _ _, by simp⟩
              have HS0 := Lib.hid (hs.out.below hBW.out HW0.out.1)
              have b3' := HS0.out.box.cell (j := 3) rfl
              have HROW : Hid (W0.ownsRow B 60 2 (.slice va M vc) M (ds.flatMap dirCells)) := by
                have := HS0.out.dirs
                rw [show ({ st with dirs := ds } : StT).dirs.length = M from hM.out] at this
                exact this
              have HOTH : Hid (∀ W, W0.grownBy W (Value.slice va M vc).ownBlock → BoxN W S [vk, .map (some K), .map (some V), .slice va M vc, .map (some L)] 63 ∧ MapAt Tryz.prog 9 W L (M + 1) (placesF ds)) := fun W hg => by
                have hne : ∀ R b, role2 b = R → R ≠ .dirs → some b ≠ (Value.slice va M vc).ownBlock := fun R b h1 h2 e => h2 (h1.symm.trans (HS0.out.rd b e.symm))
                refine ⟨HS0.out.box.to (hg.block S (HS0.out.hi S (by rw [HS0.out.rS]; simp)) (hne _ _ HS0.out.rS (by simp))), ?_⟩
                have := HS0.out.places.block (hg.block L (HS0.out.hi L (by rw [HS0.out.rL]; simp)) (hne _ _ HS0.out.rL (by simp)))
                rw [show ({ st with dirs := ds } : StT).dirs.length = M from hM.out] at this
                exact this
              go_upto_region 21 with (at_builtin; refine wpList_append_lies _ rfl (.tmp 82) (.tmp 86) 61 rfl B 60 i52 _ 2 24 Tryz.underlying61 hi52 hz520 hz521 hz522 rfl (by decide) (.slice va M vc) M (ds.flatMap dirCells) rfl HROW.out ⟨wr.heap.size, 0, none⟩ 1 1 [.string (mkB x), .int .i64 (u : Int)] rfl rfl (World.news_of_block (cs := #[.string (mkB x), .int .i64 (u : Int)]) (t := 60) (fr := (0, 0)) HW0.out.2.1) (by intro u hu; simp at hu; rcases hu with rfl | rfl <;> rfl) (by omega) (by unfold maxLen; omega) (by omega) (Nat.le_trans hBW.out HW0.out.1.size) W0.heap.size rfl ?_; intro g2 cap2 w10 hown10 hgrow10 hat10 hlt10; have c13 := (HOTH.out _ hgrow10).1.cell (j := 3) rfl; have f13 := (HOTH.out _ hgrow10).1.frozen 3)
              obtain ⟨W2, hW2⟩ : ∃ W2, w10.setCell ⟨S, 3, none⟩ (.slice (some ⟨g2, 0, none⟩) (M + 1) cap2) = W2 := ⟨_, rfl⟩
              have hSL : S ≠ L := fun e => by have h1 := HS0.out.rS; rw [e, HS0.out.rL] at h1; cases h1
              have HW2 : Hid (BoxN W2 S [vk, .map (some K), .map (some V), .slice (some ⟨g2, 0, none⟩) (M + 1) cap2, .map (some L)] 63 ∧ MapAt Tryz.prog 9 W2 L (M + 1) (placesF ds)) := by
                rw [← hW2]
                exact ⟨(HOTH.out _ hgrow10).1.set 3 _, (HOTH.out _ hgrow10).2.block (set_other _ (Ne.symm hSL))⟩
              obtain ⟨hpf1, hpf2⟩ := placesF_snoc (u := u) hidx.out
              have hrunm : ∀ W : World, W.heap = W2.heap → ∃ w12, (Instr.mapUpdate 57 (.map (some L)) (.string (mkB x)) (.int .i64 (M : Int))).run Tryz.prog W = .ok () w12 ∧ MapAt Tryz.prog 9 w12 L (M + 1 + 1) (placesF (ds ++ [(x, u)])) ∧ W.grownBy w12 (some L) := fun W hW => by
                rw [hM.out] at hpf1
                obtain ⟨w12, h1, h2, h3, _⟩ := (HW2.out.2.block (w' := W) (by rw [hW])).run_store keyed9 Tryz.underlying57 (by unfold maxLen; omega) (key9 hmx.out) _ hpf1 hpf2
                exact ⟨w12, h1, h2, h3⟩
              replace hrunm := Lib.hid hrunm
              clear c13 f13 b3 b3' hlk' c0 b4
              rw [hW2]
              have b4' := HW2.out.1.cell (j := 4) rfl
              obtain ⟨w12, hrun12, hm12, hg12⟩ := hrunm.out W2 rfl
              have hg12' : Hid (W2.grownBy w12 (some L)) := hg12
              have HFIN : Hid (∃ role3 vd3, Moved role w2 role3 w12 ∧ StoreIn w12 B role3 S K V L vk vd3 ib sl n { st with dirs := ds ++ [(x, u)] }) := by
                have hown10' : w10.ownsRow B 60 2 (.slice (some ⟨g2, 0, none⟩) (M + 1) cap2) (M + 1) (ds.flatMap dirCells ++ dirCells (x, u)) := hown10
                have h1 := hm12
                have h3 := hg12'.out
                rw [← hW2] at h3
                rw [← hM.out] at hown10' h1 h3
                have hvr := HS0.out
                rw [← hM.out] at hvr hgrow10 hat10
                obtain ⟨role3, hmv, hst⟩ := hvr.dir_step (p := x) (u := u) hidx.out (Nat.le_trans hBW.out HW0.out.1.size) hown10' hgrow10 (hat10.imp id fun h => Nat.le_of_eq h.symm) hlt10 h1 h3
                exact ⟨role3, _, hm.out.trans ((Moved.of_below hs.out.hi HW0.out.1).trans hmv), hst⟩
              have hlen2 : (ds ++ [(x, u)]).length ≤ D + (i + 1) := by
                have := hM.out
                simp
                omega
              replace hm12 := Lib.hid hm12
              clear hm12 hg12 hg12' hown10 hgrow10 hat10 hlt10 HW2 hpf1 hpf2 hrunm HOTH HROW HS0 HW0
              replace hlen2 := Lib.hid hlen2
              go_wp2_with fail
              go_roundw
              case rel =>
                obtain ⟨role3, vd3, h1, h2⟩ := HFIN.out
                exact ⟨i + 1, M, by go_num, rfl, by omega, ds ++ [(x, u)], role3, vd3, by rw [hrun.out, hM.out], hlen2.out, h1, h2⟩
              case measure => simp [intOf]; omega
          · have hi1 : ¬ (i : Int) < (N : Int) := by omega
            have hfin : runD st.dirs 0 l = (ds, u) := by
              rw [hrun, List.drop_of_length_le (by have := hN.out; omega)]
              rfl
            clear hrun
            have HE := Lib.hid (HYES.out ds u hfin wr role2 vd2 ((Moved.of_below HH.out.hi HBq.out).trans hm) hs)
            clear hm hs hfin
            go_wp2_with fail
            exact HE.out
end
end Go.Proofs.YtnplmembdfklcaaGreatDoor
