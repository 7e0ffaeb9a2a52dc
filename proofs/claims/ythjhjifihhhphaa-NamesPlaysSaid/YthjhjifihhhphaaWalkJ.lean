/-
  One call of both tables: Name and Relation. Helper text; the conditions are those typed.
-/
import Derived.Test.YthjhjifihhhphaaWalkI
namespace Go.Proofs.Ythjhjifihhhphaa
set_option linter.unusedVariables false
set_option linter.unusedSimpArgs false
open Go.RowKit Go.Maps

set_option maxRecDepth 1000000 in
set_option maxHeartbeats 2000000 in
theorem asked_name {w0 w : World} {bt bm : Nat} {t : Tab} (h : Pair w0 bt bm t t w) (s : ByteArray) (a b c : Int) :
    Calls Try.prog 16 #[.pointer (some ⟨bt, 0, none⟩), .pointer (some ⟨bm, 0, none⟩), opV 3 s a b c] w (Asked w0 bt bm) := by
  have H := Lib.hid (h.box #[.int .i64 3, .string s, .int .i64 a, .int .i64 b, .int .i64 c])
  clear h
  obtain ⟨S1, ht⟩ := H.out.tab
  obtain ⟨S2, nv, lv, hm⟩ := H.out.ref
  have hN := Lib.hid (name_in ht a)
  obtain ⟨ad, cc, rfl⟩ := row_slice hm.nrow
  have c0 := cell_of_blk hm.blk 0 rfl
  have hrow := Lib.hid hm.nrow
  clear ht hm
  by_cases hk : t.known a = true
  · obtain ⟨k0, k1⟩ := Tab.known_iff.1 hk
    obtain ⟨k, rfl⟩ := Int.eq_ofNat_of_zero_le k0
    have hkl : k < t.names.length := by omega
    have hn : t.name k = (t.names[k], 0) := by simp [Tab.name, hk, hkl]
    rw [hn] at hN
    obtain ⟨g, rfl⟩ : ∃ g, ad = some ⟨g, 0, none⟩ := by
      rcases hrow.out.2 with ⟨h0, h1⟩ | ⟨g, gc, _, h0, _⟩
      · simp at h0
        omega
      · simp at h0
        exact ⟨g, h0.1⟩
    have ck := hrow.out.cellAt k (by omega)
    rw [List.getElem?_map, List.getElem?_eq_getElem hkl] at ck
    simp only [Option.map_some] at ck
    have hz : decide ((k : Int) < 0) = false := by simp
    have hge : decide ((t.names.length : Int) ≤ (k : Int)) = false := by simp; omega
    have hlt : (k : Int) < (t.names.length : Int) := by omega
    clear hn hk k0 k1
    go_enter Try.func16, Try.ntmps16
    go_wp2_with fail
    refine hN.out.mono ?_
    rintro e w1 ⟨rfl, rfl⟩
    go_wp2
    go_quiet (fail)
    go_wp2
    go_quiet (fail)
    go_wp2
    go_ret
    exact ⟨by simp, _, H.out.pair.keep (((Chg.refl _ _).drewN _).drewN _)⟩
  · have hn : t.name a = (⟨#[]⟩, 22) := by simp [Tab.name, hk]; rfl
    rw [hn] at hN
    have hkk : ¬ (0 ≤ a ∧ a < t.names.length) := fun h => hk (Tab.known_iff.2 h)
    by_cases hz : a < 0
    · have hz : decide (a < 0) = true := by simpa using hz
      clear hn hk
      go_enter Try.func16, Try.ntmps16
      go_wp2_with fail
      refine hN.out.mono ?_
      rintro e w1 ⟨rfl, rfl⟩
      go_wp2
      go_quiet (fail)
      go_wp2
      go_ret
      exact ⟨by simp, _, H.out.pair.keep ((Chg.refl _ _).drewN _)⟩
    · have hge : decide ((t.names.length : Int) ≤ a) = true := by simp; omega
      have hz : decide (a < 0) = false := by simpa using hz
      clear hn hk
      go_enter Try.func16, Try.ntmps16
      go_wp2_with fail
      refine hN.out.mono ?_
      rintro e w1 ⟨rfl, rfl⟩
      go_wp2
      go_quiet (fail)
      go_wp2
      go_ret
      exact ⟨by simp, _, H.out.pair.keep ((Chg.refl _ _).drewN _)⟩

theorem relation_pair {w0 w : World} {bt bm p : Nat} {cs : Array Value} {t m : Tab} (h : PairO w0 bt bm p cs t m w) (i : Int) :
    Calls Try.prog 12 #[.pointer (some ⟨bt, 0, none⟩), .int .i64 i] w fun e w' => e = .returned (.tuple #[.int .i64 (t.relation i).1.1, .int .i64 (t.relation i).1.2.1, .int .i64 (t.relation i).1.2.2, .int .i64 (t.relation i).2]) ∧ PairO w0 bt bm p cs t m w' := by
  obtain ⟨S, ht⟩ := h.tab
  exact (relation_in ht i).mono fun e w' ⟨he, hp⟩ => ⟨he, h.keep hp⟩

set_option maxRecDepth 1000000 in
set_option maxHeartbeats 2000000 in
theorem asked_relation {w0 w : World} {bt bm : Nat} {t : Tab} (h : Pair w0 bt bm t t w) (s : ByteArray) (a b c : Int) :
    Calls Try.prog 16 #[.pointer (some ⟨bt, 0, none⟩), .pointer (some ⟨bm, 0, none⟩), opV 5 s a b c] w (Asked w0 bt bm) := by
  have H := Lib.hid (h.box #[.int .i64 5, .string s, .int .i64 a, .int .i64 b, .int .i64 c])
  clear h
  have hN := Lib.hid (relation_pair H.out a)
  by_cases hz : a < 0
  · have hn : t.relation a = ((0, 0, 0), 22) := Tab.relation_none (by omega)
    rw [hn] at hN
    have hz : decide (a < 0) = true := by simpa using hz
    clear hn
    go_enter Try.func16, Try.ntmps16
    go_wp2_with fail
    refine hN.out.mono ?_
    rintro e w1 ⟨rfl, h1⟩
    have H1 := Lib.hid h1
    have B2 := cell_of_blk h1.blk 2 rfl
    clear h1
    go_wp2
    go_quiet (fail)
    go_wp2
    go_ret
    exact ⟨by simp, _, H1.out.pair.keep ((Chg.refl _ _).drewN _)⟩
  · by_cases hl : (t.rels.length : Int) ≤ a
    · have hn : t.relation a = ((0, 0, 0), 22) := Tab.relation_none (by omega)
      rw [hn] at hN
      have hz : decide (a < 0) = false := by simpa using hz
      have hge : decide ((t.rels.length : Int) ≤ a) = true := by simpa using hl
      clear hn
      go_enter Try.func16, Try.ntmps16
      go_wp2_with fail
      refine hN.out.mono ?_
      rintro e w1 ⟨rfl, h1⟩
      have H1 := Lib.hid h1
      have B2 := cell_of_blk h1.blk 2 rfl
      obtain ⟨S2, nv, lv, hm⟩ := h1.ref
      obtain ⟨ad, cc, rfl⟩ := row_slice hm.lrow
      have c1 := cell_of_blk hm.blk 1 rfl
      clear h1 hm
      go_wp2
      go_quiet (fail)
      go_wp2
      go_ret
      exact ⟨by simp, _, H1.out.pair.keep ((Chg.refl _ _).drewN _)⟩
    · obtain ⟨k, rfl⟩ := Int.eq_ofNat_of_zero_le (show 0 ≤ a by omega)
      have hkl : k < t.rels.length := by omega
      have hn : t.relation k = (t.rels[k], 0) := by simp [Tab.relation, hkl]
      rw [hn] at hN
      have hz : decide ((k : Int) < 0) = false := by simp
      have hge : decide ((t.rels.length : Int) ≤ (k : Int)) = false := by simp; omega
      have hlt : (k : Int) < (t.rels.length : Int) := by omega
      obtain ⟨f0, f1, f2⟩ := flat_rel t.rels k t.rels[k] (by simp)
      generalize hr : t.rels[k] = r at hN f0 f1 f2
      obtain ⟨r0, r1, r2⟩ := r
      clear hn hr
      go_enter Try.func16, Try.ntmps16
      go_wp2_with fail
      refine hN.out.mono ?_
      rintro e w1 ⟨rfl, h1⟩
      have H1 := Lib.hid h1
      have B2 := cell_of_blk h1.blk 2 rfl
      obtain ⟨S2, nv, lv, hm⟩ := h1.ref
      obtain ⟨ad, cc, rfl⟩ := row_slice hm.lrow
      have c1 := cell_of_blk hm.blk 1 rfl
      have hrow := hm.lrow
      obtain ⟨g, rfl⟩ : ∃ g, ad = some ⟨g, 0, none⟩ := by
        rcases hrow.2 with ⟨h0, h1⟩ | ⟨g, gc, _, h0, _⟩
        · simp at h0
          omega
        · simp at h0
          exact ⟨g, h0.1⟩
      have k0 := hrow.cellAt (k * 3) (by omega)
      have k1 := hrow.cellAt (k * 3 + 1) (by omega)
      have k2 := hrow.cellAt (k * 3 + 2) (by omega)
      rw [f0] at k0
      rw [f1] at k1
      rw [f2] at k2
      have hmany := hm.ok.rmany
      clear f0 f1 f2 hrow h1 hm
      go_wp2
      go_quiet (fail)
      go_wp2
      have hbm := World.block_lt_of_cell? w1 _ c1
      have HCh : Hid (Chg (fun _ => False) w1 (w1.drewN nq)) := (Chg.refl _ _).drewN _
      obtain ⟨p, hp⟩ : ∃ p, p = w.heap.size := ⟨_, rfl⟩
      rw [← hp] at B2 ⊢
      have HPE := Lib.hid hp
      clear hp
      have e1 : (w1.drewN nq).cell? ⟨bm, 1, none⟩ = some (.slice (some ⟨g, 0, none⟩) t.rels.length cc) := c1
      have e2 : (w1.drewN nq).cell? ⟨p, 2, none⟩ = some (.int .i64 k) := B2
      have e3 : (w1.drewN nq).cell? ⟨g, k * 3, none⟩ = some (.int .i64 r0) := k0
      have e4 : (w1.drewN nq).cell? ⟨g, k * 3 + 1, none⟩ = some (.int .i64 r1) := k1
      have e5 : (w1.drewN nq).cell? ⟨g, k * 3 + 2, none⟩ = some (.int .i64 r2) := k2
      generalize w1.drewN nq = W at e1 e2 e3 e4 e5 HCh ⊢
      clear c1 B2 k0 k1 k2
      refine wp_region_ord (fun w' => w'.cell? ⟨bm, 1, none⟩ = some (.slice (some ⟨g, 0, none⟩) t.rels.length cc) ∧ w'.cell? ⟨p, 2, none⟩ = some (.int .i64 k) ∧ w'.cell? ⟨g, k * 3, none⟩ = some (.int .i64 r0) ∧ w'.cell? ⟨g, k * 3 + 1, none⟩ = some (.int .i64 r1) ∧ w'.cell? ⟨g, k * 3 + 2, none⟩ = some (.int .i64 r2)) 9
        [(true, 0), (true, 1), (true, 2), (true, 3), (true, 4), (true, 5), (true, 6), (true, 7), (false, 8), (false, 9)] (by kernel_rfl) (by kernel_rfl) (fun _ _ d _ _ h => by cases d <;> exact h) ⟨e1, e2, e3, e4, e5⟩ ?_
      intro wd hwd hS
      simp only [ordOps, List.map_cons, List.map_nil, Array.getD_eq_getD_getElem?, List.getElem?_toArray, List.getElem?_cons_succ, List.getElem?_cons_zero, Option.getD_some]
      iterate 8 (refine wpOrd_q rfl _ (fun w' hS' K hK => (by have q1 := hS'.1; have q2 := hS'.2.1; have q3 := hS'.2.2.1; have q4 := hS'.2.2.2.1; have q5 := hS'.2.2.2.2; clear hS'; go_simp; exact hK)) (fun K hK => ?_); go_simp; refine hK _ ?_; clear hK K)
      obtain ⟨t1, t2, t3, t4, t5⟩ := hS
      refine wpOrd_l rfl (fun K hK => ?_)
      go_simp
      refine hK _ _ ⟨fun _ => ⟨cell_alloc t1, cell_alloc t2, cell_alloc t3, cell_alloc t4, cell_alloc t5⟩, ?_⟩
      clear hK K
      refine wpOrd_l rfl (fun K hK => ?_)
      go_simp
      refine hK _ _ ⟨fun h => absurd rfl h, ?_⟩
      clear hK K
      refine wpOrd_nil ?_
      have HZ : Hid (Chg (fun _ => False) w1 wd) := by rw [hwd.out]; exact HCh.out.drew
      clear t1 t2 t3 t4 t5 e1 e2 e3 e4 e5
      go_wp2
      go_ret
      exact ⟨by simp, _, H1.out.pair.keep (HZ.out.alloc _)⟩

end Go.Proofs.Ythjhjifihhhphaa
