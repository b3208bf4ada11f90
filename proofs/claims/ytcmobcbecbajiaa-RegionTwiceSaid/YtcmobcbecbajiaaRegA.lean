/- region's small functions, walked: number, add, magic. -/
import Derived.Test.YtcmobcbecbajiaaRecC
import Derived.Test.YtcmobcbecbajiaaRegSpec
import Derived.Test.YtcmobcbecbajiaaEqual
namespace Go.Proofs.Ytcmobcbecbajiaa
open Go.RowKit
set_option linter.unusedSimpArgs false
set_option linter.unusedVariables false

theorem gnumber_calls (A : Option Addr) (n c : Nat) (b : List UInt8) (w : World) (hr : Rd w tU8 A n (bys b)) (hn : n ≤ 8) :
    Calls Try.prog 102 #[.slice A n c] w fun e w' => e = .returned (.int .u64 (num b)) ∧ w = w' := by
  have hbl : b.length = n := by rw [← bys_length]; exact hr.1
  rcases Nat.eq_zero_or_pos n with rfl | hpos
  · have hb : b = [] := List.eq_nil_of_length_eq_zero hbl
    subst hb
    clear hr hbl
    go_enter Try.func102, Try.ntmps102
    go_wp2
    go_loopg [3, 4] 0 (fun k v i wr => w = wr ∧ i = .int .i64 (-1) ∧ v = .int .u64 0)
    case atStart => exact ⟨rfl, rfl, rfl⟩
    case round =>
      obtain ⟨rfl, rfl, rfl⟩ := hrel
      go_wp2
      go_ret
      exact ⟨rfl, rfl⟩
  · obtain ⟨g, off, rfl, hg, hx⟩ := hr.at_ hpos
    have HX := Lib.hid hx
    have HBL := Lib.hid hbl
    clear hr hx hbl hg
    go_enter Try.func102, Try.ntmps102
    go_wp2
    go_loopg [3, 4] n (fun k v i wr => ∃ j : Nat, k = j ∧ j ≤ n ∧ w = wr ∧ i = .int .i64 ((j : Int) - 1) ∧ v = .int .u64 ((num (b.drop j) : Nat) : Int))
    case atStart => exact ⟨n, rfl, Nat.le_refl _, rfl, by go_num, by rw [List.drop_of_length_le (by rw [HBL.out]; exact Nat.le_refl _)]; rfl⟩
    case round =>
      obtain ⟨j, rfl, hj, rfl, rfl, rfl⟩ := hrel
      rcases Nat.eq_zero_or_pos gk with rfl | h0
      · rw [show (((0 : Nat) : Int) - 1) = -1 from rfl]
        go_wp2
        go_ret
        exact ⟨by simp, rfl⟩
      · obtain ⟨m, rfl⟩ : ∃ m, gk = m + 1 := ⟨gk - 1, by omega⟩
        have e1 : ((m + 1 : Nat) : Int) - 1 = (m : Int) := by omega
        rw [e1]
        have hlt : (m : Int) < (n : Int) := by omega
        have hml : m < b.length := by rw [HBL.out]; omega
        obtain ⟨x, hxe⟩ : ∃ x, x = b[m] := ⟨_, rfl⟩
        have hc : w.cell? ⟨g, off + m, none⟩ = some (.int .u8 x.toNat) := HX.out m _ (by simp [bys, hxe, List.getElem?_eq_getElem hml])
        obtain ⟨q, hq⟩ : ∃ q, q = num (b.drop (m + 1)) := ⟨_, rfl⟩
        rw [← hq]
        have hqs : q < 72057594037927936 := by rw [hq]; exact num_small b m (by rw [HBL.out]; exact hn) hml
        have HV : Hid (num (b.drop m) = x.toNat + 256 * q) := by rw [hq, hxe]; exact num_drop b m hml
        have HO := Lib.hid (bits_or_byte q x hqs)
        clear hq hxe hml
        go_wp2
        go_roundg m
        case measure => omega
        case rel => exact ⟨m, rfl, by omega, rfl, rfl, by rw [HO.out, HV.out]⟩

theorem gadd_calls (v : Value) (base m : Nat) (xs : List Value) (k n : Nat) (w : World) (hown : w.ownsRow base tU8 1 v m xs) (hb : base ≤ w.heap.size) (hk : k < 18446744073709551616) (hn : n ≤ 8) (hm : m ≤ 140737488351232) :
    Calls Try.prog 97 #[v, .int .u64 k, .int .i64 n] w fun e w' => ∃ v', e = .returned v' ∧ w'.ownsRow base tU8 1 v' (m + n) (xs ++ bys (le n k)) ∧ Chg (rowOf v) w w' ∧ (v'.ownBlock = v.ownBlock ∨ ∀ j, v'.ownBlock = some j → w.heap.size ≤ j) := by
  have HO := Lib.hid hown
  clear hown
  go_enter Try.func97, Try.ntmps97
  go_wp2
  go_loopg [0, 9] n (fun g v0 i wr => ∃ q : Nat, g = n - q ∧ q ≤ n ∧ i = .int .i64 q ∧ Hid (wr.ownsRow base tU8 1 v0 (m + q) (xs ++ bys (le q k)) ∧ Chg (rowOf v) w wr ∧ (v0.ownBlock = v.ownBlock ∨ ∀ j, v0.ownBlock = some j → w.heap.size ≤ j)))
  case atStart => exact ⟨0, rfl, Nat.zero_le _, rfl, ⟨by simpa [le, bys] using HO.out, Chg.refl _ _, .inl rfl⟩⟩
  case round =>
    obtain ⟨q, rfl, hq, rfl, HQ⟩ := hrel
    by_cases h0 : q < n
    · have HW : Hid (base ≤ wr.heap.size) := Nat.le_trans hb HQ.out.2.1.size
      rename_i v0
      go_wp2_with (first
        | (at_builtin; refine wpList_app _ rfl (.tmp 12) (.tmp 18) tBytes rfl tU8 Try.underlying31 ti_u8 rfl (by omega) base _ (m + q) (xs ++ bys (le q k)) rfl (HQ.out.1.alloc _) tU8 _ 1 1 _ rfl (rd_one _ _ _) (by simp [Value.oneCell']) (by simp only [maxLen]; omega) (by omega) (by have := HW.out; simp; omega) ?_; intro v1 w1 ho1 hg1 hb1; have HO1 := Lib.hid ho1; have HG1 := Lib.hid hg1; have HB1 := Lib.hid hb1; clear ho1 hg1 hb1))
      go_roundg (n - (q + 1))
      case measure => omega
      case rel =>
        refine ⟨q + 1, rfl, by omega, by go_num, ?_, ?_, ?_⟩
        · have h := HO1.out
          rw [List.append_assoc] at h
          have e : bys (le (q + 1) k) = bys (le q k) ++ [.int .u8 ((k : Int) / 2 ^ (8 * q) % 256)] := by
            rw [le_snoc, bys_append]
            simp only [bys, List.map_cons, List.map_nil, le_byte]
          rw [e]
          exact h
        · refine ((HQ.out.2.1.alloc _).grown HG1.out ?_)
          intro j hj
          rcases HQ.out.2.2 with h | h
          · left; unfold rowOf; rw [← h]; exact hj
          · right; exact h j hj
        · rcases HB1.out with h | h
          · rw [h]; exact HQ.out.2.2
          · right
            intro j hj
            rw [h] at hj
            have := HQ.out.2.1.size
            simp at hj
            omega
    · have e : q = n := by omega
      subst e
      go_wp2
      go_ret
      exact ⟨_, rfl, HQ.out⟩

theorem gadd_callsI (v : Value) (base m : Nat) (xs : List Value) (k n : Int) (w : World) (hown : w.ownsRow base tU8 1 v m xs) (hb : base ≤ w.heap.size) (hk0 : 0 ≤ k) (hk : k < 18446744073709551616) (hn0 : 0 ≤ n) (hn : n ≤ 8) (hm : m ≤ 140737488351232) :
    Calls Try.prog 97 #[v, .int .u64 k, .int .i64 n] w fun e w' => ∃ v', e = .returned v' ∧ w'.ownsRow base tU8 1 v' (m + n.toNat) (xs ++ bys (le n.toNat k.toNat)) ∧ Chg (fun i => base ≤ i) w w' := by
  obtain ⟨k, rfl⟩ := Int.eq_ofNat_of_zero_le hk0
  obtain ⟨n, rfl⟩ := Int.eq_ofNat_of_zero_le hn0
  refine (gadd_calls v base m xs k n w hown hb (by omega) (by omega) hm).mono ?_
  rintro e w' ⟨v', rfl, h1, h2, _⟩
  exact ⟨v', rfl, by simpa using h1, h2.mono (fun i _ hi => own_new hown i hi)⟩

theorem gmagic_calls (w : World) : Calls Try.prog 98 #[] w fun e w' => e = .returned (.slice (some ⟨w.heap.size, 0, none⟩) 2 2) ∧ w' = w.alloc (.cells #[.int .u8 82, .int .u8 71] tU8) := by
  go_enter Try.func98, Try.ntmps98
  go_wp2
  go_ret
  exact ⟨rfl, rfl⟩

/-- what magic laid -/
theorem rd_gmagic (W : World) : Rd (W.alloc (.cells #[.int .u8 82, .int .u8 71] tU8)) tU8 (some ⟨W.heap.size, 0, none⟩) 2 (bys [82, 71]) := by
  have := Rd.ofBlk (k := 2) (Blk.new W tU8 #[.int .u8 82, .int .u8 71]) (by simp)
  simpa [bys] using this
end Go.Proofs.Ytcmobcbecbajiaa
