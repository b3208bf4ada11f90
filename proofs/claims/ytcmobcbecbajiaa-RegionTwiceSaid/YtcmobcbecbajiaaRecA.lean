/- The record's small functions, walked: sums, numbers, Good, Size. -/
import Derived.Test.YtcmobcbecbajiaaFlashB
import Derived.Test.YtcmobcbecbajiaaRecSpec
import Derived.Deep.LoopGhost
namespace Go.Proofs.Ytcmobcbecbajiaa
open Go.RowKit
set_option linter.unusedSimpArgs false
set_option linter.unusedVariables false

theorem num_drop (b : List UInt8) (m : Nat) (hm : m < b.length) : num (b.drop m) = (b[m]).toNat + 256 * num (b.drop (m + 1)) := by
  rw [List.drop_eq_getElem_cons hm]; rfl
theorem num_small (b : List UInt8) (m : Nat) (hb : b.length ≤ 8) (hm : m < b.length) : num (b.drop (m + 1)) < 72057594037927936 := by
  have h := num_lt (b.drop (m + 1))
  have hl : (b.drop (m + 1)).length ≤ 7 := by rw [List.length_drop]; omega
  have : 256 ^ (b.drop (m + 1)).length ≤ 256 ^ 7 := Nat.pow_le_pow_right (by decide) hl
  have e : (256 : Nat) ^ 7 = 72057594037927936 := by decide
  omega
theorem ret_int {k : IntKind} {a b : Int} (h : a = b) : Ending.returned (.int k a) = .returned (.int k b) := by rw [h]

theorem number_calls (A : Option Addr) (n c : Nat) (b : List UInt8) (w : World) (hr : Rd w tU8 A n (bys b)) (hn : n ≤ 8) :
    Calls Try.prog 87 #[.slice A n c] w fun e w' => e = .returned (.int .u64 (num b)) ∧ w = w' := by
  have hbl : b.length = n := by rw [← bys_length]; exact hr.1
  rcases Nat.eq_zero_or_pos n with rfl | hpos
  · have hb : b = [] := List.eq_nil_of_length_eq_zero hbl
    subst hb
    clear hr hbl
    go_enter Try.func87, Try.ntmps87
    go_wp2
    go_loopg [3, 4] 0 (fun k v i wr => w = wr ∧ i = .int .i64 (-1) ∧ v = .int .u64 0)
    case atStart => exact ⟨rfl, rfl, rfl⟩
    case round =>
      obtain ⟨rfl, rfl, rfl⟩ := hrel
      go_wp2
      go_ret
      exact ⟨rfl, rfl⟩
  · obtain ⟨g, off, rfl, hg, hx⟩ := hr.at_ hpos
    have HX := Lib.hid hx
    have HBL := Lib.hid hbl
    clear hr hx hbl hg
    go_enter Try.func87, Try.ntmps87
    go_wp2
    go_loopg [3, 4] n (fun k v i wr => ∃ j : Nat, k = j ∧ j ≤ n ∧ w = wr ∧ i = .int .i64 ((j : Int) - 1) ∧ v = .int .u64 ((num (b.drop j) : Nat) : Int))
    case atStart => exact ⟨n, rfl, Nat.le_refl _, rfl, by go_num, by rw [List.drop_of_length_le (by rw [HBL.out]; exact Nat.le_refl _)]; rfl⟩
    case round =>
      obtain ⟨j, rfl, hj, rfl, rfl, rfl⟩ := hrel
      rcases Nat.eq_zero_or_pos gk with rfl | h0
      · rw [show (((0 : Nat) : Int) - 1) = -1 from rfl]
        go_wp2
        go_ret
        exact ⟨by simp, rfl⟩
      · obtain ⟨m, rfl⟩ : ∃ m, gk = m + 1 := ⟨gk - 1, by omega⟩
        have e1 : ((m + 1 : Nat) : Int) - 1 = (m : Int) := by omega
        rw [e1]
        have hlt : (m : Int) < (n : Int) := by omega
        have hml : m < b.length := by rw [HBL.out]; omega
        obtain ⟨x, hxe⟩ : ∃ x, x = b[m] := ⟨_, rfl⟩
        have hc : w.cell? ⟨g, off + m, none⟩ = some (.int .u8 x.toNat) := HX.out m _ (by simp [bys, hxe, List.getElem?_eq_getElem hml])
        obtain ⟨q, hq⟩ : ∃ q, q = num (b.drop (m + 1)) := ⟨_, rfl⟩
        rw [← hq]
        have hqs : q < 72057594037927936 := by rw [hq]; exact num_small b m (by rw [HBL.out]; exact hn) hml
        have HV : Hid (num (b.drop m) = x.toNat + 256 * q) := by rw [hq, hxe]; exact num_drop b m hml
        have HO := Lib.hid (bits_or_byte q x hqs)
        clear hq hxe hml
        go_wp2
        go_roundg m
        case measure => omega
        case rel => exact ⟨m, rfl, by omega, rfl, rfl, by rw [HO.out, HV.out]⟩

theorem more_calls (s : Nat) (A : Option Addr) (n c : Nat) (b : List UInt8) (w : World) (hr : Rd w tU8 A n (bys b)) (hs : s < 4294967296) (hn : n ≤ 140737488351232) :
    Calls Try.prog 100 #[.int .u32 s, .slice A n c] w fun e w' => e = .returned (.int .u32 (more s b)) ∧ w = w' := by
  have hbl : b.length = n := by rw [← bys_length]; exact hr.1
  have HR := Lib.hid hr
  have HBL := Lib.hid hbl
  have HF := Lib.hid (bits_xor32 4294967295 s (by decide) hs)
  have HM := Lib.hid (show ((IntKind.u32.max : Int)) = ((4294967295 : Nat) : Int) from by decide)
  clear hr hbl
  go_enter Try.func100, Try.ntmps100
  go_wp2
  go_loopg [5, 8, 13, 21] n (fun k s5 s8 i s21 wr => ∃ q : Nat, k = n - q ∧ q ≤ n ∧ w = wr ∧ i = .int .i64 q ∧ s5 = .int .u32 (((b.take q).foldl crcByte (flip32 s) : Nat) : Int))
  case atStart => exact ⟨0, rfl, Nat.zero_le _, rfl, rfl, by rw [HM.out, HF.out]; rfl⟩
  case round =>
    obtain ⟨j, rfl, hj, rfl, rfl, rfl⟩ := hrel
    by_cases h0 : j < n
    · have hjl : j < b.length := by rw [HBL.out]; exact h0
      obtain ⟨g, off, hA, hg, hx⟩ := HR.out.at_ h0
      obtain ⟨x, hxe⟩ : ∃ x, x = b[j] := ⟨_, rfl⟩
      have hc : w.cell? ⟨g, off + j, none⟩ = some (.int .u8 x.toNat) := hx j _ (by simp [bys, hxe, List.getElem?_eq_getElem hjl])
      subst hA
      obtain ⟨z, hz⟩ : ∃ z, z = (b.take j).foldl crcByte (flip32 s) := ⟨_, rfl⟩
      rw [← hz]
      have hzl : z < 4294967296 := by rw [hz]; exact foldl_lt _ (flip_lt hs)
      have HV : Hid ((b.take (j + 1)).foldl crcByte (flip32 s) = crcRep 8 (z ^^^ x.toNat)) := by
        show _ = _
        rw [List.take_succ_eq_append_getElem hjl, List.foldl_append, hz, hxe]; rfl
      have hxl := x.toNat_lt
      have HX := Lib.hid (bits_xor32 z x.toNat hzl (by omega))
      have HZ0 := Lib.hid (xor_lt32 hzl (show x.toNat < 4294967296 by omega))
      clear hz hxe hjl hx hg
      go_wp2
      go_loopg [5, 8, 21] 8 (fun k s5 s8 i wr => ∃ q : Nat, k = 8 - q ∧ q ≤ 8 ∧ w = wr ∧ i = .int .i64 q ∧ s5 = .int .u32 ((crcRep q (z ^^^ x.toNat) : Nat) : Int))
      case atStart => exact ⟨0, rfl, by omega, rfl, rfl, by rw [HX.out]; rfl⟩
      case round =>
        obtain ⟨i, rfl, hi, rfl, rfl, rfl⟩ := hrel
        by_cases h8 : i < 8
        · obtain ⟨y, hy⟩ : ∃ y, y = crcRep i (z ^^^ x.toNat) := ⟨_, rfl⟩
          rw [← hy]
          have hyl : y < 4294967296 := by rw [hy]; exact crcRep_lt i HZ0.out
          have HY : Hid (crcRep (i + 1) (z ^^^ x.toNat) = crcStep y) := by rw [hy]; rfl
          have hand := bits_and1 y hyl
          clear hy
          by_cases hodd : y % 2 = 1
          · rw [hodd] at hand
            have HP := Lib.hid (bits_xor32 (y / 2) poly (by omega) (by decide))
            have HO := Lib.hid hodd
            clear hodd
            go_wp2
            go_roundg (8 - (i + 1))
            case measure => omega
            case rel => exact ⟨i + 1, rfl, by omega, rfl, by go_num, by rw [HY.out, crcStep, if_pos HO.out]; exact congrArg _ HP.out⟩
          · have h20 : y % 2 = 0 := by omega
            rw [h20] at hand
            have HO := Lib.hid hodd
            clear hodd h20
            go_wp2
            go_roundg (8 - (i + 1))
            case measure => omega
            case rel => exact ⟨i + 1, rfl, by omega, rfl, by go_num, by rw [HY.out, crcStep, if_neg HO.out]; rfl⟩
        · have e8 : i = 8 := by omega
          subst e8
          have HX2 := Lib.hid hi
          go_wp2
          go_roundg (n - (j + 1))
          case measure => omega
          case rel => exact ⟨j + 1, rfl, by omega, rfl, by go_num, by rw [HV.out]⟩
    · have en : j = n := by omega
      subst en
      have hz := foldl_lt b (flip_lt hs)
      have HF2 := Lib.hid (bits_xor32 4294967295 _ (by decide) hz)
      have HT : Hid (b.take j = b) := List.take_of_length_le (by rw [HBL.out]; exact Nat.le_refl _)
      rw [HT.out]
      clear hz
      go_wp2
      go_ret
      exact ⟨ret_int (by rw [HM.out, HF2.out]; rfl), rfl⟩

theorem crc_calls (A : Option Addr) (n c : Nat) (b : List UInt8) (w : World) (hr : Rd w tU8 A n (bys b)) (hn : n ≤ 140737488351232) :
    Calls Try.prog 84 #[.slice A n c] w fun e w' => e = .returned (.int .u32 (crc b)) ∧ w = w' := by
  have H := Lib.hid (more_calls 0 A n c b w hr (by decide) hn)
  clear hr
  go_enter Try.func84, Try.ntmps84
  go_wp2_with fail
  refine H.out.mono ?_
  rintro e w1 ⟨rfl, rfl⟩
  go_wp2
  go_ret
  exact ⟨rfl, rfl⟩
end Go.Proofs.Ytcmobcbecbajiaa
