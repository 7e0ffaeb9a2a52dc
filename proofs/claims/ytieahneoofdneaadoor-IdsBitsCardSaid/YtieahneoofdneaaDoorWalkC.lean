/-
  Take: the contract. Helper text (the ten cases laid by gen_take.py); the conditions are those typed.
-/
import Derived.Test.YtieahneoofdneaaDoorWalkB
namespace Go.Proofs.YtieahneoofdneaaDoor
set_option linter.unusedVariables false
set_option linter.unusedSimpArgs false
open Go.RowKit Go.Maps Go.Shelf Go.Sort

/-- What Take leaves. -/
def TakeRes (r : Nat × Nat × Int) (w : World) (e : Ending) (w' : World) : Prop := e = .returned (.tuple #[.int .u64 r.1, .int .i64 r.2.1, .int .i64 r.2.2]) ∧ w = w'

set_option maxHeartbeats 4000000 in
set_option maxRecDepth 100000 in
theorem take_in {w : World} {a : Option Addr} {l : List UInt8} (h : BytesAt w a l) (cap : Nat) (hl : l.length ≤ maxLen) :
    Calls Tryd.prog 14 #[.slice a l.length cap] w (TakeRes (takeB 0 0 l) w) := by
  unfold maxLen at hl
  have HA := Lib.hid h
  clear h
  go_enter Tryd.func14, Tryd.ntmps14
  go_wp2_with fail
  go_loopw [5, 10] (fun vn vi wr => ∃ k acc : Nat, vi = .int .i64 k ∧ vn = .int .u64 acc ∧ k ≤ l.length ∧ k ≤ 9 ∧ acc < 2 ^ (7 * k) ∧ w = wr ∧ takeB 0 0 l = takeB k acc (l.drop k)) (fun _ vi _ => l.length - (intOf vi).toNat)
  case atStart => exact ⟨0, 0, rfl, rfl, Nat.zero_le _, Nat.zero_le _, by decide, rfl, rfl⟩
  case round =>
    obtain ⟨k, acc, rfl, rfl, hkl, hk9, hacc, rfl, hdec⟩ := hrel
    by_cases hk : k < l.length
    · obtain ⟨g, o, rfl, hc⟩ : ∃ g o, a = some ⟨g, o, none⟩ ∧ w.cell? ⟨g, o + k, none⟩ = some (.int .u8 (l[k]).toNat) := by
        rcases HA.out with h0 | ⟨b, off, e, hc⟩
        · rw [h0] at hk; simp at hk
        · exact ⟨b, off, e, by rw [hc k hk]; simp [List.getD, List.getElem?_eq_getElem hk]⟩
      have hdrop : l.drop k = l[k] :: l.drop (k + 1) := List.drop_eq_getElem_cons hk
      rw [hdrop] at hdec
      generalize l[k] = b at hc hdec
      have hb256 : b.toNat < 256 := b.toNat_lt
      clear hdrop
      have hlt : (k : Int) < (l.length : Int) := by omega
      have hks : k = 0 ∨ k = 1 ∨ k = 2 ∨ k = 3 ∨ k = 4 ∨ k = 5 ∨ k = 6 ∨ k = 7 ∨ k = 8 ∨ k = 9 := by omega
      rcases hks with rfl | rfl | rfl | rfl | rfl | rfl | rfl | rfl | rfl | rfl
      · have hacc' : acc < 1 := by simpa using hacc
        obtain rfl : acc = 0 := by omega
        have hc0 : w.cell? ⟨g, o, none⟩ = some (.int .u8 b.toNat) := hc
        have hv : bits .or .u64 0 (IntKind.u64.wrap (IntKind.u64.wrap (bits .and .u8 (b.toNat : Int) 127))) = ((b.toNat % 128 : Nat) : Int) := by
          simp (disch := omega) only [u8_and127, u64_wrap_id, u64_orv0]
          omega
        by_cases hb : b.toNat < 128
        · have hb' : (b.toNat : Int) < 128 := by omega
          have hm : b.toNat % 128 = b.toNat := by omega
          have hF : takeB 0 0 (b :: l.drop (0 + 1)) = (b.toNat, 1, 0) := by simp [takeB, hb]
          have HX := Lib.hid (hdec.trans hF)
          rw [hm] at hv
          clear hdec hF hm
          by_cases h0 : b.toNat = 0
          · have h0' : ((b.toNat : Int) == 0) = true := by simp [h0]
            clear h0
            go_wp2
            refine bodyPost_ret (v := .tuple #[.int .u64 (b.toNat : Int), .int .i64 1, .int .i64 0]) (by simp [results, Tryd.results14, go_sem]) rfl ⟨by rw [HX.out]; rfl, rfl⟩
          · have h0' : ((b.toNat : Int) == 0) = false := by simp [h0]
            clear h0
            go_wp2
            refine bodyPost_ret (v := .tuple #[.int .u64 (b.toNat : Int), .int .i64 1, .int .i64 0]) (by simp [results, Tryd.results14, go_sem]) rfl ⟨by rw [HX.out]; rfl, rfl⟩
        · have hb' : ¬ (b.toNat : Int) < 128 := by omega
          have hF : takeB 0 0 (b :: l.drop (0 + 1)) = takeB 1 (b.toNat % 128) (l.drop (0 + 1)) := by simp [takeB, hb]
          have HX := Lib.hid (hdec.trans hF)
          clear hdec hF
          go_wp2
          go_roundw
          case rel =>
            refine ⟨1, b.toNat % 128, rfl, rfl, by omega, by omega, ?_, by trivial, HX.out⟩
            show b.toNat % 128 < 2 ^ 7
            have e2 : (2 : Nat) ^ 7 = 128 := by decide
            omega
          case measure => simp [intOf]; omega
      · have hacc' : acc < 128 := by simpa using hacc
        have hv : bits .or .u64 (acc : Int) (IntKind.u64.wrap (IntKind.u64.wrap (bits .and .u8 (b.toNat : Int) 127) * 128)) = ((acc + b.toNat % 128 * 128 : Nat) : Int) := by
          simp (disch := omega) only [u8_and127, u64_wrap_id, u64_orv7]
          omega
        by_cases hb : b.toNat < 128
        · have hb' : (b.toNat : Int) < 128 := by omega
          have hm : b.toNat % 128 = b.toNat := by omega
          by_cases h0 : b.toNat = 0
          · have h0' : ((b.toNat : Int) == 0) = true := by simp [h0]
            have hF : takeB 1 acc (b :: l.drop (1 + 1)) = (0, 0, 11) := by simp [takeB, hb, h0]
            have HX := Lib.hid (hdec.trans hF)
            clear hdec hF h0
            go_wp2
            refine bodyPost_ret (v := .tuple #[.int .u64 0, .int .i64 0, .int .i64 11]) (by simp [results, Tryd.results14, go_sem]) rfl ⟨by rw [HX.out]; rfl, rfl⟩
          · have h0' : ((b.toNat : Int) == 0) = false := by simp [h0]
            have hF : takeB 1 acc (b :: l.drop (1 + 1)) = (acc + b.toNat * 128, 2, 0) := by simp [takeB, hb, h0]
            have HX := Lib.hid (hdec.trans hF)
            rw [hm] at hv
            clear hdec hF h0 hm
            go_wp2
            refine bodyPost_ret (v := .tuple #[.int .u64 ((acc + b.toNat * 128 : Nat) : Int), .int .i64 2, .int .i64 0]) (by simp [results, Tryd.results14, go_sem]) rfl ⟨by rw [HX.out]; rfl, rfl⟩
        · have hb' : ¬ (b.toNat : Int) < 128 := by omega
          have hF : takeB 1 acc (b :: l.drop (1 + 1)) = takeB 2 (acc + b.toNat % 128 * 128) (l.drop (1 + 1)) := by simp [takeB, hb]
          have HX := Lib.hid (hdec.trans hF)
          clear hdec hF
          go_wp2
          go_roundw
          case rel =>
            refine ⟨2, acc + b.toNat % 128 * 128, rfl, rfl, by omega, by omega, ?_, by trivial, HX.out⟩
            show acc + b.toNat % 128 * 128 < 2 ^ 14
            have e2 : (2 : Nat) ^ 14 = 16384 := by decide
            omega
          case measure => simp [intOf]; omega
      · have hacc' : acc < 16384 := by simpa using hacc
        have hv : bits .or .u64 (acc : Int) (IntKind.u64.wrap (IntKind.u64.wrap (bits .and .u8 (b.toNat : Int) 127) * 16384)) = ((acc + b.toNat % 128 * 16384 : Nat) : Int) := by
          simp (disch := omega) only [u8_and127, u64_wrap_id, u64_orv14]
          omega
        by_cases hb : b.toNat < 128
        · have hb' : (b.toNat : Int) < 128 := by omega
          have hm : b.toNat % 128 = b.toNat := by omega
          by_cases h0 : b.toNat = 0
          · have h0' : ((b.toNat : Int) == 0) = true := by simp [h0]
            have hF : takeB 2 acc (b :: l.drop (2 + 1)) = (0, 0, 11) := by simp [takeB, hb, h0]
            have HX := Lib.hid (hdec.trans hF)
            clear hdec hF h0
            go_wp2
            refine bodyPost_ret (v := .tuple #[.int .u64 0, .int .i64 0, .int .i64 11]) (by simp [results, Tryd.results14, go_sem]) rfl ⟨by rw [HX.out]; rfl, rfl⟩
          · have h0' : ((b.toNat : Int) == 0) = false := by simp [h0]
            have hF : takeB 2 acc (b :: l.drop (2 + 1)) = (acc + b.toNat * 16384, 3, 0) := by simp [takeB, hb, h0]
            have HX := Lib.hid (hdec.trans hF)
            rw [hm] at hv
            clear hdec hF h0 hm
            go_wp2
            refine bodyPost_ret (v := .tuple #[.int .u64 ((acc + b.toNat * 16384 : Nat) : Int), .int .i64 3, .int .i64 0]) (by simp [results, Tryd.results14, go_sem]) rfl ⟨by rw [HX.out]; rfl, rfl⟩
        · have hb' : ¬ (b.toNat : Int) < 128 := by omega
          have hF : takeB 2 acc (b :: l.drop (2 + 1)) = takeB 3 (acc + b.toNat % 128 * 16384) (l.drop (2 + 1)) := by simp [takeB, hb]
          have HX := Lib.hid (hdec.trans hF)
          clear hdec hF
          go_wp2
          go_roundw
          case rel =>
            refine ⟨3, acc + b.toNat % 128 * 16384, rfl, rfl, by omega, by omega, ?_, by trivial, HX.out⟩
            show acc + b.toNat % 128 * 16384 < 2 ^ 21
            have e2 : (2 : Nat) ^ 21 = 2097152 := by decide
            omega
          case measure => simp [intOf]; omega
      · have hacc' : acc < 2097152 := by simpa using hacc
        have hv : bits .or .u64 (acc : Int) (IntKind.u64.wrap (IntKind.u64.wrap (bits .and .u8 (b.toNat : Int) 127) * 2097152)) = ((acc + b.toNat % 128 * 2097152 : Nat) : Int) := by
          simp (disch := omega) only [u8_and127, u64_wrap_id, u64_orv21]
          omega
        by_cases hb : b.toNat < 128
        · have hb' : (b.toNat : Int) < 128 := by omega
          have hm : b.toNat % 128 = b.toNat := by omega
          by_cases h0 : b.toNat = 0
          · have h0' : ((b.toNat : Int) == 0) = true := by simp [h0]
            have hF : takeB 3 acc (b :: l.drop (3 + 1)) = (0, 0, 11) := by simp [takeB, hb, h0]
            have HX := Lib.hid (hdec.trans hF)
            clear hdec hF h0
            go_wp2
            refine bodyPost_ret (v := .tuple #[.int .u64 0, .int .i64 0, .int .i64 11]) (by simp [results, Tryd.results14, go_sem]) rfl ⟨by rw [HX.out]; rfl, rfl⟩
          · have h0' : ((b.toNat : Int) == 0) = false := by simp [h0]
            have hF : takeB 3 acc (b :: l.drop (3 + 1)) = (acc + b.toNat * 2097152, 4, 0) := by simp [takeB, hb, h0]
            have HX := Lib.hid (hdec.trans hF)
            rw [hm] at hv
            clear hdec hF h0 hm
            go_wp2
            refine bodyPost_ret (v := .tuple #[.int .u64 ((acc + b.toNat * 2097152 : Nat) : Int), .int .i64 4, .int .i64 0]) (by simp [results, Tryd.results14, go_sem]) rfl ⟨by rw [HX.out]; rfl, rfl⟩
        · have hb' : ¬ (b.toNat : Int) < 128 := by omega
          have hF : takeB 3 acc (b :: l.drop (3 + 1)) = takeB 4 (acc + b.toNat % 128 * 2097152) (l.drop (3 + 1)) := by simp [takeB, hb]
          have HX := Lib.hid (hdec.trans hF)
          clear hdec hF
          go_wp2
          go_roundw
          case rel =>
            refine ⟨4, acc + b.toNat % 128 * 2097152, rfl, rfl, by omega, by omega, ?_, by trivial, HX.out⟩
            show acc + b.toNat % 128 * 2097152 < 2 ^ 28
            have e2 : (2 : Nat) ^ 28 = 268435456 := by decide
            omega
          case measure => simp [intOf]; omega
      · have hacc' : acc < 268435456 := by simpa using hacc
        have hv : bits .or .u64 (acc : Int) (IntKind.u64.wrap (IntKind.u64.wrap (bits .and .u8 (b.toNat : Int) 127) * 268435456)) = ((acc + b.toNat % 128 * 268435456 : Nat) : Int) := by
          simp (disch := omega) only [u8_and127, u64_wrap_id, u64_orv28]
          omega
        by_cases hb : b.toNat < 128
        · have hb' : (b.toNat : Int) < 128 := by omega
          have hm : b.toNat % 128 = b.toNat := by omega
          by_cases h0 : b.toNat = 0
          · have h0' : ((b.toNat : Int) == 0) = true := by simp [h0]
            have hF : takeB 4 acc (b :: l.drop (4 + 1)) = (0, 0, 11) := by simp [takeB, hb, h0]
            have HX := Lib.hid (hdec.trans hF)
            clear hdec hF h0
            go_wp2
            refine bodyPost_ret (v := .tuple #[.int .u64 0, .int .i64 0, .int .i64 11]) (by simp [results, Tryd.results14, go_sem]) rfl ⟨by rw [HX.out]; rfl, rfl⟩
          · have h0' : ((b.toNat : Int) == 0) = false := by simp [h0]
            have hF : takeB 4 acc (b :: l.drop (4 + 1)) = (acc + b.toNat * 268435456, 5, 0) := by simp [takeB, hb, h0]
            have HX := Lib.hid (hdec.trans hF)
            rw [hm] at hv
            clear hdec hF h0 hm
            go_wp2
            refine bodyPost_ret (v := .tuple #[.int .u64 ((acc + b.toNat * 268435456 : Nat) : Int), .int .i64 5, .int .i64 0]) (by simp [results, Tryd.results14, go_sem]) rfl ⟨by rw [HX.out]; rfl, rfl⟩
        · have hb' : ¬ (b.toNat : Int) < 128 := by omega
          have hF : takeB 4 acc (b :: l.drop (4 + 1)) = takeB 5 (acc + b.toNat % 128 * 268435456) (l.drop (4 + 1)) := by simp [takeB, hb]
          have HX := Lib.hid (hdec.trans hF)
          clear hdec hF
          go_wp2
          go_roundw
          case rel =>
            refine ⟨5, acc + b.toNat % 128 * 268435456, rfl, rfl, by omega, by omega, ?_, by trivial, HX.out⟩
            show acc + b.toNat % 128 * 268435456 < 2 ^ 35
            have e2 : (2 : Nat) ^ 35 = 34359738368 := by decide
            omega
          case measure => simp [intOf]; omega
      · have hacc' : acc < 34359738368 := by simpa using hacc
        have hv : bits .or .u64 (acc : Int) (IntKind.u64.wrap (IntKind.u64.wrap (bits .and .u8 (b.toNat : Int) 127) * 34359738368)) = ((acc + b.toNat % 128 * 34359738368 : Nat) : Int) := by
          simp (disch := omega) only [u8_and127, u64_wrap_id, u64_orv35]
          omega
        by_cases hb : b.toNat < 128
        · have hb' : (b.toNat : Int) < 128 := by omega
          have hm : b.toNat % 128 = b.toNat := by omega
          by_cases h0 : b.toNat = 0
          · have h0' : ((b.toNat : Int) == 0) = true := by simp [h0]
            have hF : takeB 5 acc (b :: l.drop (5 + 1)) = (0, 0, 11) := by simp [takeB, hb, h0]
            have HX := Lib.hid (hdec.trans hF)
            clear hdec hF h0
            go_wp2
            refine bodyPost_ret (v := .tuple #[.int .u64 0, .int .i64 0, .int .i64 11]) (by simp [results, Tryd.results14, go_sem]) rfl ⟨by rw [HX.out]; rfl, rfl⟩
          · have h0' : ((b.toNat : Int) == 0) = false := by simp [h0]
            have hF : takeB 5 acc (b :: l.drop (5 + 1)) = (acc + b.toNat * 34359738368, 6, 0) := by simp [takeB, hb, h0]
            have HX := Lib.hid (hdec.trans hF)
            rw [hm] at hv
            clear hdec hF h0 hm
            go_wp2
            refine bodyPost_ret (v := .tuple #[.int .u64 ((acc + b.toNat * 34359738368 : Nat) : Int), .int .i64 6, .int .i64 0]) (by simp [results, Tryd.results14, go_sem]) rfl ⟨by rw [HX.out]; rfl, rfl⟩
        · have hb' : ¬ (b.toNat : Int) < 128 := by omega
          have hF : takeB 5 acc (b :: l.drop (5 + 1)) = takeB 6 (acc + b.toNat % 128 * 34359738368) (l.drop (5 + 1)) := by simp [takeB, hb]
          have HX := Lib.hid (hdec.trans hF)
          clear hdec hF
          go_wp2
          go_roundw
          case rel =>
            refine ⟨6, acc + b.toNat % 128 * 34359738368, rfl, rfl, by omega, by omega, ?_, by trivial, HX.out⟩
            show acc + b.toNat % 128 * 34359738368 < 2 ^ 42
            have e2 : (2 : Nat) ^ 42 = 4398046511104 := by decide
            omega
          case measure => simp [intOf]; omega
      · have hacc' : acc < 4398046511104 := by simpa using hacc
        have hv : bits .or .u64 (acc : Int) (IntKind.u64.wrap (IntKind.u64.wrap (bits .and .u8 (b.toNat : Int) 127) * 4398046511104)) = ((acc + b.toNat % 128 * 4398046511104 : Nat) : Int) := by
          simp (disch := omega) only [u8_and127, u64_wrap_id, u64_orv42]
          omega
        by_cases hb : b.toNat < 128
        · have hb' : (b.toNat : Int) < 128 := by omega
          have hm : b.toNat % 128 = b.toNat := by omega
          by_cases h0 : b.toNat = 0
          · have h0' : ((b.toNat : Int) == 0) = true := by simp [h0]
            have hF : takeB 6 acc (b :: l.drop (6 + 1)) = (0, 0, 11) := by simp [takeB, hb, h0]
            have HX := Lib.hid (hdec.trans hF)
            clear hdec hF h0
            go_wp2
            refine bodyPost_ret (v := .tuple #[.int .u64 0, .int .i64 0, .int .i64 11]) (by simp [results, Tryd.results14, go_sem]) rfl ⟨by rw [HX.out]; rfl, rfl⟩
          · have h0' : ((b.toNat : Int) == 0) = false := by simp [h0]
            have hF : takeB 6 acc (b :: l.drop (6 + 1)) = (acc + b.toNat * 4398046511104, 7, 0) := by simp [takeB, hb, h0]
            have HX := Lib.hid (hdec.trans hF)
            rw [hm] at hv
            clear hdec hF h0 hm
            go_wp2
            refine bodyPost_ret (v := .tuple #[.int .u64 ((acc + b.toNat * 4398046511104 : Nat) : Int), .int .i64 7, .int .i64 0]) (by simp [results, Tryd.results14, go_sem]) rfl ⟨by rw [HX.out]; rfl, rfl⟩
        · have hb' : ¬ (b.toNat : Int) < 128 := by omega
          have hF : takeB 6 acc (b :: l.drop (6 + 1)) = takeB 7 (acc + b.toNat % 128 * 4398046511104) (l.drop (6 + 1)) := by simp [takeB, hb]
          have HX := Lib.hid (hdec.trans hF)
          clear hdec hF
          go_wp2
          go_roundw
          case rel =>
            refine ⟨7, acc + b.toNat % 128 * 4398046511104, rfl, rfl, by omega, by omega, ?_, by trivial, HX.out⟩
            show acc + b.toNat % 128 * 4398046511104 < 2 ^ 49
            have e2 : (2 : Nat) ^ 49 = 562949953421312 := by decide
            omega
          case measure => simp [intOf]; omega
      · have hacc' : acc < 562949953421312 := by simpa using hacc
        have hv : bits .or .u64 (acc : Int) (IntKind.u64.wrap (IntKind.u64.wrap (bits .and .u8 (b.toNat : Int) 127) * 562949953421312)) = ((acc + b.toNat % 128 * 562949953421312 : Nat) : Int) := by
          simp (disch := omega) only [u8_and127, u64_wrap_id, u64_orv49]
          omega
        by_cases hb : b.toNat < 128
        · have hb' : (b.toNat : Int) < 128 := by omega
          have hm : b.toNat % 128 = b.toNat := by omega
          by_cases h0 : b.toNat = 0
          · have h0' : ((b.toNat : Int) == 0) = true := by simp [h0]
            have hF : takeB 7 acc (b :: l.drop (7 + 1)) = (0, 0, 11) := by simp [takeB, hb, h0]
            have HX := Lib.hid (hdec.trans hF)
            clear hdec hF h0
            go_wp2
            refine bodyPost_ret (v := .tuple #[.int .u64 0, .int .i64 0, .int .i64 11]) (by simp [results, Tryd.results14, go_sem]) rfl ⟨by rw [HX.out]; rfl, rfl⟩
          · have h0' : ((b.toNat : Int) == 0) = false := by simp [h0]
            have hF : takeB 7 acc (b :: l.drop (7 + 1)) = (acc + b.toNat * 562949953421312, 8, 0) := by simp [takeB, hb, h0]
            have HX := Lib.hid (hdec.trans hF)
            rw [hm] at hv
            clear hdec hF h0 hm
            go_wp2
            refine bodyPost_ret (v := .tuple #[.int .u64 ((acc + b.toNat * 562949953421312 : Nat) : Int), .int .i64 8, .int .i64 0]) (by simp [results, Tryd.results14, go_sem]) rfl ⟨by rw [HX.out]; rfl, rfl⟩
        · have hb' : ¬ (b.toNat : Int) < 128 := by omega
          have hF : takeB 7 acc (b :: l.drop (7 + 1)) = takeB 8 (acc + b.toNat % 128 * 562949953421312) (l.drop (7 + 1)) := by simp [takeB, hb]
          have HX := Lib.hid (hdec.trans hF)
          clear hdec hF
          go_wp2
          go_roundw
          case rel =>
            refine ⟨8, acc + b.toNat % 128 * 562949953421312, rfl, rfl, by omega, by omega, ?_, by trivial, HX.out⟩
            show acc + b.toNat % 128 * 562949953421312 < 2 ^ 56
            have e2 : (2 : Nat) ^ 56 = 72057594037927936 := by decide
            omega
          case measure => simp [intOf]; omega
      · have hacc' : acc < 72057594037927936 := by simpa using hacc
        have hv : bits .or .u64 (acc : Int) (IntKind.u64.wrap (IntKind.u64.wrap (bits .and .u8 (b.toNat : Int) 127) * 72057594037927936)) = ((acc + b.toNat % 128 * 72057594037927936 : Nat) : Int) := by
          simp (disch := omega) only [u8_and127, u64_wrap_id, u64_orv56]
          omega
        by_cases hb : b.toNat < 128
        · have hb' : (b.toNat : Int) < 128 := by omega
          have hm : b.toNat % 128 = b.toNat := by omega
          by_cases h0 : b.toNat = 0
          · have h0' : ((b.toNat : Int) == 0) = true := by simp [h0]
            have hF : takeB 8 acc (b :: l.drop (8 + 1)) = (0, 0, 11) := by simp [takeB, hb, h0]
            have HX := Lib.hid (hdec.trans hF)
            clear hdec hF h0
            go_wp2
            refine bodyPost_ret (v := .tuple #[.int .u64 0, .int .i64 0, .int .i64 11]) (by simp [results, Tryd.results14, go_sem]) rfl ⟨by rw [HX.out]; rfl, rfl⟩
          · have h0' : ((b.toNat : Int) == 0) = false := by simp [h0]
            have hF : takeB 8 acc (b :: l.drop (8 + 1)) = (acc + b.toNat * 72057594037927936, 9, 0) := by simp [takeB, hb, h0]
            have HX := Lib.hid (hdec.trans hF)
            rw [hm] at hv
            clear hdec hF h0 hm
            go_wp2
            refine bodyPost_ret (v := .tuple #[.int .u64 ((acc + b.toNat * 72057594037927936 : Nat) : Int), .int .i64 9, .int .i64 0]) (by simp [results, Tryd.results14, go_sem]) rfl ⟨by rw [HX.out]; rfl, rfl⟩
        · have hb' : ¬ (b.toNat : Int) < 128 := by omega
          have hF : takeB 8 acc (b :: l.drop (8 + 1)) = takeB 9 (acc + b.toNat % 128 * 72057594037927936) (l.drop (8 + 1)) := by simp [takeB, hb]
          have HX := Lib.hid (hdec.trans hF)
          clear hdec hF
          go_wp2
          go_roundw
          case rel =>
            refine ⟨9, acc + b.toNat % 128 * 72057594037927936, rfl, rfl, by omega, by omega, ?_, by trivial, HX.out⟩
            show acc + b.toNat % 128 * 72057594037927936 < 2 ^ 63
            have e2 : (2 : Nat) ^ 63 = 9223372036854775808 := by decide
            omega
          case measure => simp [intOf]; omega
      · have hacc' : acc < 9223372036854775808 := by simpa using hacc
        by_cases h1 : 1 < b.toNat
        · have h1' : (1 : Int) < (b.toNat : Int) := by omega
          have hF : takeB 9 acc (b :: l.drop (9 + 1)) = (0, 0, 11) := by simp [takeB, h1]
          have HX := Lib.hid (hdec.trans hF)
          clear hdec hF
          go_wp2
          refine bodyPost_ret (v := .tuple #[.int .u64 0, .int .i64 0, .int .i64 11]) (by simp [results, Tryd.results14, go_sem]) rfl ⟨by rw [HX.out]; rfl, rfl⟩
        have h1' : ¬ (1 : Int) < (b.toNat : Int) := by omega
        have hv : bits .or .u64 (acc : Int) (IntKind.u64.wrap (IntKind.u64.wrap (bits .and .u8 (b.toNat : Int) 127) * 9223372036854775808)) = ((acc + b.toNat % 128 * 9223372036854775808 : Nat) : Int) := by
          simp (disch := omega) only [u8_and127, u64_wrap_id, u64_orv63]
          omega
        by_cases hb : b.toNat < 128
        · have hb' : (b.toNat : Int) < 128 := by omega
          have hm : b.toNat % 128 = b.toNat := by omega
          by_cases h0 : b.toNat = 0
          · have h0' : ((b.toNat : Int) == 0) = true := by simp [h0]
            have hF : takeB 9 acc (b :: l.drop (9 + 1)) = (0, 0, 11) := by simp [takeB, h1, hb, h0]
            have HX := Lib.hid (hdec.trans hF)
            clear hdec hF h0
            go_wp2
            refine bodyPost_ret (v := .tuple #[.int .u64 0, .int .i64 0, .int .i64 11]) (by simp [results, Tryd.results14, go_sem]) rfl ⟨by rw [HX.out]; rfl, rfl⟩
          · have h0' : ((b.toNat : Int) == 0) = false := by simp [h0]
            have hF : takeB 9 acc (b :: l.drop (9 + 1)) = (acc + b.toNat * 9223372036854775808, 10, 0) := by simp [takeB, h1, hb, h0]
            have HX := Lib.hid (hdec.trans hF)
            rw [hm] at hv
            clear hdec hF h0 hm
            go_wp2
            refine bodyPost_ret (v := .tuple #[.int .u64 ((acc + b.toNat * 9223372036854775808 : Nat) : Int), .int .i64 10, .int .i64 0]) (by simp [results, Tryd.results14, go_sem]) rfl ⟨by rw [HX.out]; rfl, rfl⟩
        · omega
    · have hke : k = l.length := by omega
      have hF : takeB k acc (l.drop k) = (0, 0, 10) := by rw [hke, List.drop_length]; rfl
      have HX := Lib.hid (hdec.trans hF)
      have hlt : ¬ (k : Int) < (l.length : Int) := by omega
      clear hdec hF hke
      go_wp2
      refine bodyPost_ret (v := .tuple #[.int .u64 0, .int .i64 0, .int .i64 10]) (by simp [results, Tryd.results14, go_sem]) rfl ⟨by rw [HX.out]; rfl, rfl⟩
end Go.Proofs.YtieahneoofdneaaDoor
