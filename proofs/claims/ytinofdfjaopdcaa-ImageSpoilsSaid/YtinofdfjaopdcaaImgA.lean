/- image's small functions, walked: add, number, magic, Equal, may. -/
import Derived.Test.YtinofdfjaopdcaaRecC
import Derived.Test.YtinofdfjaopdcaaImgS
import Derived.Test.YtinofdfjaopdcaaFlashD
import Derived.Deep.LoopGhost
import Derived.Deep.DrawnRows
import Derived.Deep.QuietTactic
import Derived.BigQuiet
namespace Go.Proofs.Ytinofdfjaopdcaa
open Go.RowKit
attribute [local go_sem ↓] Go.wp_at_zero Go.wp_at_succ
set_option linter.unusedSimpArgs false
set_option linter.unusedVariables false

theorem num_small3 (b : List UInt8) (m : Nat) (hb : b.length ≤ 4) (hm : m < b.length) : num (b.drop (m + 1)) < 16777216 := by
  have h := num_lt (b.drop (m + 1))
  have hl : (b.drop (m + 1)).length ≤ 3 := by rw [List.length_drop]; omega
  have : 256 ^ (b.drop (m + 1)).length ≤ 256 ^ 3 := Nat.pow_le_pow_right (by decide) hl
  have e : (256 : Nat) ^ 3 = 16777216 := by decide
  omega
theorem bits_or_byte_i (q : Nat) (x : UInt8) (hq : q < 16777216) : bits .or .i64 ((q : Int) * 256) (wrap64 (x.toNat : Int)) = ((x.toNat + 256 * q : Nat) : Int) := by
  have hx := x.toNat_lt
  rw [show wrap64 (x.toNat : Int) = x.toNat from IntWalk.wrap64_in _ (by omega)]
  have h := bits_join .i64 63 (by decide) (fun n h1 h2 => IntWalk.i64_in _ (by omega)) 8 ((q : Int) * 256) (x.toNat : Int) (by omega) (by omega) (by omega) (by omega) (by omega) (by omega)
  rw [h]; omega

theorem inumber_calls (A : Option Addr) (n c : Nat) (b : List UInt8) (w : World) (hr : Rd w tU8 A n (bys b)) (hn : n ≤ 4) :
    Calls Try.prog 55 #[.slice A n c] w fun e w' => e = .returned (.int .i64 (num b)) ∧ w = w' := by
  have hbl : b.length = n := by rw [← bys_length]; exact hr.1
  rcases Nat.eq_zero_or_pos n with rfl | hpos
  · have hb : b = [] := List.eq_nil_of_length_eq_zero hbl
    subst hb
    clear hr hbl
    go_enter Try.func55, Try.ntmps55
    go_wp2
    go_loopg [3, 4] 0 (fun k v i wr => w = wr ∧ i = .int .i64 (-1) ∧ v = .int .i64 0)
    case atStart => exact ⟨rfl, rfl, rfl⟩
    case round =>
      obtain ⟨rfl, rfl, rfl⟩ := hrel
      go_wp2
      go_ret
      exact ⟨rfl, rfl⟩
  · obtain ⟨g, off, rfl, hg, hx⟩ := hr.at_ hpos
    have HX := Lib.hid hx
    have HBL := Lib.hid hbl
    clear hr hx hbl hg
    go_enter Try.func55, Try.ntmps55
    go_wp2
    go_loopg [3, 4] n (fun k v i wr => ∃ j : Nat, k = j ∧ j ≤ n ∧ w = wr ∧ i = .int .i64 ((j : Int) - 1) ∧ v = .int .i64 ((num (b.drop j) : Nat) : Int))
    case atStart => exact ⟨n, rfl, Nat.le_refl _, rfl, by go_num, by rw [List.drop_of_length_le (by rw [HBL.out]; exact Nat.le_refl _)]; rfl⟩
    case round =>
      obtain ⟨j, rfl, hj, rfl, rfl, rfl⟩ := hrel
      rcases Nat.eq_zero_or_pos gk with rfl | h0
      · rw [show (((0 : Nat) : Int) - 1) = -1 from rfl]
        go_wp2
        go_ret
        exact ⟨by simp, rfl⟩
      · obtain ⟨m, rfl⟩ : ∃ m, gk = m + 1 := ⟨gk - 1, by omega⟩
        have e1 : ((m + 1 : Nat) : Int) - 1 = (m : Int) := by omega
        rw [e1]
        have hlt : (m : Int) < (n : Int) := by omega
        have hml : m < b.length := by rw [HBL.out]; omega
        obtain ⟨x, hxe⟩ : ∃ x, x = b[m] := ⟨_, rfl⟩
        have hc : w.cell? ⟨g, off + m, none⟩ = some (.int .u8 x.toNat) := HX.out m _ (by simp [bys, hxe, List.getElem?_eq_getElem hml])
        obtain ⟨q, hq⟩ : ∃ q, q = num (b.drop (m + 1)) := ⟨_, rfl⟩
        rw [← hq]
        have hqs : q < 16777216 := by rw [hq]; exact num_small3 b m (by rw [HBL.out]; exact hn) hml
        have HV : Hid (num (b.drop m) = x.toNat + 256 * q) := by rw [hq, hxe]; exact num_drop b m hml
        have HO := Lib.hid (bits_or_byte_i q x hqs)
        clear hq hxe hml
        go_wp2
        go_roundg m
        case measure => omega
        case rel => exact ⟨m, rfl, by omega, rfl, rfl, by rw [HO.out, HV.out]⟩

theorem iadd_calls (v : Value) (base m : Nat) (xs : List Value) (k n : Nat) (w : World) (hown : w.ownsRow base tU8 1 v m xs) (hb : base ≤ w.heap.size) (hk : k < 18446744073709551616) (hn : n ≤ 8) (hm : m ≤ 140737488351232) :
    Calls Try.prog 51 #[v, .int .u64 k, .int .i64 n] w fun e w' => ∃ v', e = .returned v' ∧ w'.ownsRow base tU8 1 v' (m + n) (xs ++ bys (le n k)) ∧ Chg (rowOf v) w w' ∧ (v'.ownBlock = v.ownBlock ∨ ∀ j, v'.ownBlock = some j → w.heap.size ≤ j) := by
  have HO := Lib.hid hown
  clear hown
  go_enter Try.func51, Try.ntmps51
  go_wp2
  go_loopg [0, 9] n (fun g v0 i wr => ∃ q : Nat, g = n - q ∧ q ≤ n ∧ i = .int .i64 q ∧ Hid (wr.ownsRow base tU8 1 v0 (m + q) (xs ++ bys (le q k)) ∧ Chg (rowOf v) w wr ∧ (v0.ownBlock = v.ownBlock ∨ ∀ j, v0.ownBlock = some j → w.heap.size ≤ j)))
  case atStart => exact ⟨0, rfl, Nat.zero_le _, rfl, ⟨by simpa [le, bys] using HO.out, Chg.refl _ _, .inl rfl⟩⟩
  case round =>
    obtain ⟨q, rfl, hq, rfl, HQ⟩ := hrel
    by_cases h0 : q < n
    · have HW : Hid (base ≤ wr.heap.size) := Nat.le_trans hb HQ.out.2.1.size
      rename_i v0
      go_wp2_with (first
        | (at_builtin; refine wpList_app _ rfl (.tmp 12) (.tmp 18) tBytes rfl tU8 Try.underlying40 ti_u8 rfl (by omega) base _ (m + q) (xs ++ bys (le q k)) rfl (HQ.out.1.alloc _) tU8 _ 1 1 _ rfl (rd_one _ _ _) (by simp [Value.oneCell']) (by simp only [maxLen]; omega) (by omega) (by have := HW.out; simp; omega) ?_; intro v1 w1 ho1 hg1 hb1; have HO1 := Lib.hid ho1; have HG1 := Lib.hid hg1; have HB1 := Lib.hid hb1; clear ho1 hg1 hb1))
      go_roundg (n - (q + 1))
      case measure => omega
      case rel =>
        refine ⟨q + 1, rfl, by omega, by go_num, ?_, ?_, ?_⟩
        · have h := HO1.out
          rw [List.append_assoc] at h
          have e : bys (le (q + 1) k) = bys (le q k) ++ [.int .u8 ((k : Int) / 2 ^ (8 * q) % 256)] := by
            rw [le_snoc, bys_append]
            simp only [bys, List.map_cons, List.map_nil, le_byte]
          rw [e]
          exact h
        · refine ((HQ.out.2.1.alloc _).grown HG1.out ?_)
          intro j hj
          rcases HQ.out.2.2 with h | h
          · left; unfold rowOf; rw [← h]; exact hj
          · right; exact h j hj
        · rcases HB1.out with h | h
          · rw [h]; exact HQ.out.2.2
          · right
            intro j hj
            rw [h] at hj
            have := HQ.out.2.1.size
            simp at hj
            omega
    · have e : q = n := by omega
      subst e
      go_wp2
      go_ret
      exact ⟨_, rfl, HQ.out⟩

/-- add, its numbers as the walk has them; what lies below 'base' stays -/
theorem iadd_callsI (v : Value) (base m : Nat) (xs : List Value) (k n : Int) (w : World) (hown : w.ownsRow base tU8 1 v m xs) (hb : base ≤ w.heap.size) (hk0 : 0 ≤ k) (hk : k < 18446744073709551616) (hn0 : 0 ≤ n) (hn : n ≤ 8) (hm : m ≤ 140737488351232) :
    Calls Try.prog 51 #[v, .int .u64 k, .int .i64 n] w fun e w' => ∃ v', e = .returned v' ∧ w'.ownsRow base tU8 1 v' (m + n.toNat) (xs ++ bys (le n.toNat k.toNat)) ∧ Chg (fun i => base ≤ i) w w' := by
  obtain ⟨k, rfl⟩ := Int.eq_ofNat_of_zero_le hk0
  obtain ⟨n, rfl⟩ := Int.eq_ofNat_of_zero_le hn0
  refine (iadd_calls v base m xs k n w hown hb (by omega) (by omega) hm).mono ?_
  rintro e w' ⟨v', rfl, h1, h2, _⟩
  exact ⟨v', rfl, by simpa using h1, h2.mono (fun i _ hi => own_new hown i hi)⟩


theorem magic_calls (w : World) : Calls Try.prog 52 #[] w fun e w' => e = .returned (.slice (some ⟨w.heap.size, 0, none⟩) 2 2) ∧ w' = w.alloc (.cells #[.int .u8 73, .int .u8 77] tU8) := by
  go_enter Try.func52, Try.ntmps52
  go_wp2
  go_ret
  exact ⟨rfl, rfl⟩

set_option maxRecDepth 100000 in
theorem equal_calls (A A2 : Option Addr) (n m c c2 : Nat) (b d : List UInt8) (w : World) (hr : Rd w tU8 A n (bys b)) (hr2 : Rd w tU8 A2 m (bys d)) (hn : n ≤ 1000000) (hm : m ≤ 1000000) :
    Calls Try.prog 54 #[.slice A n c, .slice A2 m c2] w fun e w' => e = .returned (.bool (decide (b = d))) ∧ Chg No w w' := by
  have hbl : b.length = n := by rw [← bys_length]; exact hr.1
  have hdl : d.length = m := by rw [← bys_length]; exact hr2.1
  have HR := Lib.hid hr
  have HR2 := Lib.hid hr2
  have HBL := Lib.hid hbl
  have HDL := Lib.hid hdl
  clear hr hr2 hbl hdl
  by_cases hl : n = m
  · subst hl
    go_enter Try.func54, Try.ntmps54
    go_wp2
    go_loopg [5, 13] n (fun g v5 v13 wr => ∃ k : Nat, v13 = .int .i64 k ∧ k ≤ n ∧ n - k = g ∧ Hid (Chg No w wr ∧ b.take k = d.take k))
    case atStart => exact ⟨0, rfl, by omega, by omega, ⟨Chg.refl _ _, rfl⟩⟩
    case round =>
      obtain ⟨k, rfl, hk, hgn, H⟩ := hrel
      subst hgn
      by_cases h0 : k < n
      · obtain ⟨x, hx⟩ : ∃ x, b[k]? = some x := ⟨_, List.getElem?_eq_getElem (by have := HBL.out; omega)⟩
        obtain ⟨y, hy⟩ : ∃ y, d[k]? = some y := ⟨_, List.getElem?_eq_getElem (by have := HDL.out; omega)⟩
        obtain ⟨g, off, rfl, hg, hc⟩ := (HR.out.chg H.out.1 (fun _ _ _ _ h => h)).at_ h0
        obtain ⟨g2, off2, rfl, hg2, hd⟩ := (HR2.out.chg H.out.1 (fun _ _ _ _ h => h)).at_ h0
        have c0 := hc k _ (by simp only [bys, List.getElem?_map, hx]; rfl)
        have d0 := hd k _ (by simp only [bys, List.getElem?_map, hy]; rfl)
        have hki : (0 : Int) ≤ (k : Int) := by omega
        have hkn : (k : Int) < (n : Int) := by omega
        have HX := Lib.hid hx
        have HY := Lib.hid hy
        clear hx hy hc hd
        by_cases hxy : x = y
        · subst hxy
          have hb : ((x.toNat : Int) != (x.toNat : Int)) = false := by simp
          go_wp2_with fail
          go_quiet (fail)
          go_wp2
          go_roundg (n - (k + 1))
          case measure => omega
          case rel =>
            refine ⟨k + 1, rfl, by omega, rfl, by have := H.out.1; (repeat (first | (with_reducible exact Chg.refl _ _) | (with_reducible assumption) | (with_reducible refine Chg.drewN ?_ _) | (with_reducible refine Chg.drew ?_) | (with_reducible refine Chg.alloc ?_ _) | (with_reducible refine Chg.setCell ?_ (by first | (left; simp [DevH.foot]; done) | (right; simp; done) | (right; simp; omega)) _))), ?_⟩
            rw [List.take_add_one, List.take_add_one, HX.out, HY.out, H.out.2]
        · have hne : ¬ (x.toNat : Int) = (y.toNat : Int) := fun h => hxy (UInt8.toNat_inj.1 (Int.ofNat.inj h))
          have hb : ((x.toNat : Int) != (y.toNat : Int)) = true := by simpa using hne
          have HXY := Lib.hid hxy
          clear hxy hne
          go_wp2_with fail
          go_quiet (fail)
          go_wp2
          go_ret
          refine ⟨?_, by have := H.out.1; (repeat (first | (with_reducible exact Chg.refl _ _) | (with_reducible assumption) | (with_reducible refine Chg.drewN ?_ _) | (with_reducible refine Chg.drew ?_) | (with_reducible refine Chg.alloc ?_ _) | (with_reducible refine Chg.setCell ?_ (by first | (left; simp [DevH.foot]; done) | (right; simp; done) | (right; simp; omega)) _)))⟩
          have : ¬ b = d := by
            intro h
            have h1 := HX.out
            rw [h, HY.out] at h1
            injection h1 with h1
            exact HXY.out h1.symm
          rw [decide_eq_false this]; rfl
      · obtain rfl : k = n := by omega
        have hlm : b = d := by
          have := H.out.2
          rwa [List.take_of_length_le (by have := HBL.out; omega), List.take_of_length_le (by have := HDL.out; omega)] at this
        have HLM := Lib.hid hlm
        clear hlm h0
        go_wp2
        go_ret
        exact ⟨by rw [decide_eq_true HLM.out]; rfl, H.out.1⟩
  · have hb : ((n : Int) != (m : Int)) = true := by simp; omega
    have hne : ¬ b = d := fun h => hl (by rw [← HBL.out, ← HDL.out, h])
    have HNE := Lib.hid hne
    clear hl hne
    go_enter Try.func54, Try.ntmps54
    go_wp2
    go_ret
    exact ⟨by rw [decide_eq_false HNE.out]; rfl, Chg.refl _ _⟩

theorem imay_calls {N : Nat} {w : World} {h : DevH} {D : Dev} (hd : DevN N w h D) (first pages : Int) (hf : -9223372036854775808 ≤ first ∧ first ≤ 9223372036854775807) (hp : -9223372036854775808 ≤ pages ∧ pages ≤ 9223372036854775807) :
    Calls Try.prog 48 #[.pointer (some ⟨h.d, 0, none⟩), .int .i64 first, .int .i64 pages] w fun e w' => e = .returned (.bool (D.may first pages)) ∧ Chg No w w' := by
  have HP := fun W => Lib.hid (fun hc : Chg No w W => pages_calls (hd.chgNo hc))
  have hm := hd.nmost
  obtain ⟨n, hnn⟩ : ∃ n, n = D.n := ⟨_, rfl⟩
  have HE : Hid (D.may first pages = (decide (0 ≤ first) && decide (0 ≤ pages) && decide (first ≤ (n : Int)) && decide (pages ≤ (n : Int) - first))) := by show _ = _; rw [hnn]; rfl
  rw [← hnn] at HP hm
  clear hd hnn
  by_cases c1 : 0 ≤ first
  · have b1 : decide (0 ≤ first) = true := by simpa using c1
    by_cases c2 : 0 ≤ pages
    · have b2 : decide (0 ≤ pages) = true := by simpa using c2
      by_cases c3 : first ≤ n
      · have b3 : decide (first ≤ (n : Int)) = true := by simpa using c3
        have q6 : IntKind.i64.wrap ((n : Int) - first) = (n : Int) - first := IntWalk.i64_in _ (by omega)
        by_cases c4 : pages ≤ n - first
        · have b4 : decide (pages ≤ (n : Int) - first) = true := by simpa using c4
          go_enter Try.func48, Try.ntmps48
          go_wp2_with fail
          refine ((HP _).out (by (repeat (first | (with_reducible exact Chg.refl _ _) | (with_reducible assumption) | (with_reducible refine Chg.drewN ?_ _) | (with_reducible refine Chg.drew ?_) | (with_reducible refine Chg.alloc ?_ _) | (with_reducible refine Chg.setCell ?_ (by first | (left; simp [DevH.foot]; done) | (right; simp; done) | (right; simp; omega)) _))))).mono ?_
          rintro e w1 ⟨rfl, rfl⟩
          go_wp2_with fail
          refine ((HP _).out (by (repeat (first | (with_reducible exact Chg.refl _ _) | (with_reducible assumption) | (with_reducible refine Chg.drewN ?_ _) | (with_reducible refine Chg.drew ?_) | (with_reducible refine Chg.alloc ?_ _) | (with_reducible refine Chg.setCell ?_ (by first | (left; simp [DevH.foot]; done) | (right; simp; done) | (right; simp; omega)) _))))).mono ?_
          rintro e w1 ⟨rfl, rfl⟩
          go_wp2
          go_ret
          exact ⟨by rw [HE.out, b1, b2, b3, b4]; rfl, by (repeat (first | (with_reducible exact Chg.refl _ _) | (with_reducible assumption) | (with_reducible refine Chg.drewN ?_ _) | (with_reducible refine Chg.drew ?_) | (with_reducible refine Chg.alloc ?_ _) | (with_reducible refine Chg.setCell ?_ (by first | (left; simp [DevH.foot]; done) | (right; simp; done) | (right; simp; omega)) _)))⟩
        · have b4 : decide (pages ≤ (n : Int) - first) = false := by simpa using c4
          go_enter Try.func48, Try.ntmps48
          go_wp2_with fail
          refine ((HP _).out (by (repeat (first | (with_reducible exact Chg.refl _ _) | (with_reducible assumption) | (with_reducible refine Chg.drewN ?_ _) | (with_reducible refine Chg.drew ?_) | (with_reducible refine Chg.alloc ?_ _) | (with_reducible refine Chg.setCell ?_ (by first | (left; simp [DevH.foot]; done) | (right; simp; done) | (right; simp; omega)) _))))).mono ?_
          rintro e w1 ⟨rfl, rfl⟩
          go_wp2_with fail
          refine ((HP _).out (by (repeat (first | (with_reducible exact Chg.refl _ _) | (with_reducible assumption) | (with_reducible refine Chg.drewN ?_ _) | (with_reducible refine Chg.drew ?_) | (with_reducible refine Chg.alloc ?_ _) | (with_reducible refine Chg.setCell ?_ (by first | (left; simp [DevH.foot]; done) | (right; simp; done) | (right; simp; omega)) _))))).mono ?_
          rintro e w1 ⟨rfl, rfl⟩
          go_wp2
          go_ret
          exact ⟨by rw [HE.out, b4]; simp, by (repeat (first | (with_reducible exact Chg.refl _ _) | (with_reducible assumption) | (with_reducible refine Chg.drewN ?_ _) | (with_reducible refine Chg.drew ?_) | (with_reducible refine Chg.alloc ?_ _) | (with_reducible refine Chg.setCell ?_ (by first | (left; simp [DevH.foot]; done) | (right; simp; done) | (right; simp; omega)) _)))⟩
      · have b3 : decide (first ≤ (n : Int)) = false := by simpa using c3
        go_enter Try.func48, Try.ntmps48
        go_wp2_with fail
        refine ((HP _).out (by (repeat (first | (with_reducible exact Chg.refl _ _) | (with_reducible assumption) | (with_reducible refine Chg.drewN ?_ _) | (with_reducible refine Chg.drew ?_) | (with_reducible refine Chg.alloc ?_ _) | (with_reducible refine Chg.setCell ?_ (by first | (left; simp [DevH.foot]; done) | (right; simp; done) | (right; simp; omega)) _))))).mono ?_
        rintro e w1 ⟨rfl, rfl⟩
        go_wp2
        go_ret
        exact ⟨by rw [HE.out, b3]; simp, by (repeat (first | (with_reducible exact Chg.refl _ _) | (with_reducible assumption) | (with_reducible refine Chg.drewN ?_ _) | (with_reducible refine Chg.drew ?_) | (with_reducible refine Chg.alloc ?_ _) | (with_reducible refine Chg.setCell ?_ (by first | (left; simp [DevH.foot]; done) | (right; simp; done) | (right; simp; omega)) _)))⟩
    · have b2 : decide (0 ≤ pages) = false := by simpa using c2
      go_enter Try.func48, Try.ntmps48
      go_wp2
      go_ret
      exact ⟨by rw [HE.out, b2]; simp, by (repeat (first | (with_reducible exact Chg.refl _ _) | (with_reducible assumption) | (with_reducible refine Chg.drewN ?_ _) | (with_reducible refine Chg.drew ?_) | (with_reducible refine Chg.alloc ?_ _) | (with_reducible refine Chg.setCell ?_ (by first | (left; simp [DevH.foot]; done) | (right; simp; done) | (right; simp; omega)) _)))⟩
  · have b1 : decide (0 ≤ first) = false := by simpa using c1
    go_enter Try.func48, Try.ntmps48
    go_wp2
    go_ret
    exact ⟨by rw [HE.out, b1]; simp, by (repeat (first | (with_reducible exact Chg.refl _ _) | (with_reducible assumption) | (with_reducible refine Chg.drewN ?_ _) | (with_reducible refine Chg.drew ?_) | (with_reducible refine Chg.alloc ?_ _) | (with_reducible refine Chg.setCell ?_ (by first | (left; simp [DevH.foot]; done) | (right; simp; done) | (right; simp; omega)) _)))⟩
end Go.Proofs.Ytinofdfjaopdcaa
