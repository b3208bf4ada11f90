/- rec.add, rec.Good, rec.Size. -/
import Derived.Test.YtcmobcbecbajiaaRecA
import Derived.Deep.LoopGhost
namespace Go.Proofs.Ytcmobcbecbajiaa
open Go.RowKit
set_option linter.unusedSimpArgs false
set_option linter.unusedVariables false

/-- the row of v, or new: what an append onto v may change -/
def rowOf (v : Value) : Nat → Prop := fun k => v.ownBlock = some k

theorem le_byte (k i : Nat) : ((UInt8.ofNat (k / 256 ^ i)).toNat : Int) = (k : Int) / 2 ^ (8 * i) % 256 := by
  have e : (256 : Nat) ^ i = 2 ^ (8 * i) := by rw [Nat.pow_mul]
  rw [e]
  simp

/-- a byte that was laid into a new block of one cell -/
theorem rd_one (w : World) (t : TypeId) (u : Value) : Rd (w.alloc (.cells #[u] t)) t (some ⟨w.heap.size, 0, none⟩) (1 * 1) [u] :=
  Rd.ofBlk (k := 1) (Blk.new w t #[u]) (by simp)

theorem add_calls (v : Value) (base m : Nat) (xs : List Value) (k n : Nat) (w : World) (hown : w.ownsRow base tU8 1 v m xs) (hb : base ≤ w.heap.size) (hk : k < 18446744073709551616) (hn : n ≤ 8) (hm : m ≤ 140737488351232) :
    Calls Try.prog 83 #[v, .int .u64 k, .int .i64 n] w fun e w' => ∃ v', e = .returned v' ∧ w'.ownsRow base tU8 1 v' (m + n) (xs ++ bys (le n k)) ∧ Chg (rowOf v) w w' ∧ (v'.ownBlock = v.ownBlock ∨ ∀ j, v'.ownBlock = some j → w.heap.size ≤ j) := by
  have HO := Lib.hid hown
  clear hown
  go_enter Try.func83, Try.ntmps83
  go_wp2
  go_loopg [0, 9] n (fun g v0 i wr => ∃ q : Nat, g = n - q ∧ q ≤ n ∧ i = .int .i64 q ∧ Hid (wr.ownsRow base tU8 1 v0 (m + q) (xs ++ bys (le q k)) ∧ Chg (rowOf v) w wr ∧ (v0.ownBlock = v.ownBlock ∨ ∀ j, v0.ownBlock = some j → w.heap.size ≤ j)))
  case atStart => exact ⟨0, rfl, Nat.zero_le _, rfl, ⟨by simpa [le, bys] using HO.out, Chg.refl _ _, .inl rfl⟩⟩
  case round =>
    obtain ⟨q, rfl, hq, rfl, HQ⟩ := hrel
    by_cases h0 : q < n
    · have HW : Hid (base ≤ wr.heap.size) := Nat.le_trans hb HQ.out.2.1.size
      rename_i v0
      go_wp2_with (first
        | (at_builtin; refine wpList_app _ rfl (.tmp 12) (.tmp 18) tBytes rfl tU8 Try.underlying31 ti_u8 rfl (by omega) base _ (m + q) (xs ++ bys (le q k)) rfl (HQ.out.1.alloc _) tU8 _ 1 1 _ rfl (rd_one _ _ _) (by simp [Value.oneCell']) (by simp only [maxLen]; omega) (by omega) (by have := HW.out; simp; omega) ?_; intro v1 w1 ho1 hg1 hb1; have HO1 := Lib.hid ho1; have HG1 := Lib.hid hg1; have HB1 := Lib.hid hb1; clear ho1 hg1 hb1))
      go_roundg (n - (q + 1))
      case measure => omega
      case rel =>
        refine ⟨q + 1, rfl, by omega, by go_num, ?_, ?_, ?_⟩
        · have h := HO1.out
          rw [List.append_assoc] at h
          have e : bys (le (q + 1) k) = bys (le q k) ++ [.int .u8 ((k : Int) / 2 ^ (8 * q) % 256)] := by
            rw [le_snoc, bys_append]
            simp only [bys, List.map_cons, List.map_nil, le_byte]
          rw [e]
          exact h
        · refine ((HQ.out.2.1.alloc _).grown HG1.out ?_)
          intro j hj
          rcases HQ.out.2.2 with h | h
          · left; unfold rowOf; rw [← h]; exact hj
          · right; exact h j hj
        · rcases HB1.out with h | h
          · rw [h]; exact HQ.out.2.2
          · right
            intro j hj
            rw [h] at hj
            have := HQ.out.2.1.size
            simp at hj
            omega
    · have e : q = n := by omega
      subst e
      go_wp2
      go_ret
      exact ⟨_, rfl, HQ.out⟩

theorem Rd.lo {w w' : World} {t : TypeId} {g off k B : Nat} {xs : List Value} (h : Rd w t (some ⟨g, off, none⟩) k xs) (hc : Chg (fun i => B ≤ i) w w') (hg : g < B) : Rd w' t (some ⟨g, off, none⟩) k xs :=
  ⟨h.1, fun hk => by
    obtain ⟨g', off', cur, fz, e, hg', hx⟩ := h.2 hk
    simp only [Option.some.injEq, Addr.mk.injEq, and_true] at e
    obtain ⟨rfl, rfl⟩ := e
    exact ⟨g, off, cur, fz, rfl, hc.at_ hg' (by omega), hx⟩⟩

/-- add, its numbers as the walk has them; what lies below 'base' stays -/
theorem add_callsI (v : Value) (base m : Nat) (xs : List Value) (k n : Int) (w : World) (hown : w.ownsRow base tU8 1 v m xs) (hb : base ≤ w.heap.size) (hk0 : 0 ≤ k) (hk : k < 18446744073709551616) (hn0 : 0 ≤ n) (hn : n ≤ 8) (hm : m ≤ 140737488351232) :
    Calls Try.prog 83 #[v, .int .u64 k, .int .i64 n] w fun e w' => ∃ v', e = .returned v' ∧ w'.ownsRow base tU8 1 v' (m + n.toNat) (xs ++ bys (le n.toNat k.toNat)) ∧ Chg (fun i => base ≤ i) w w' := by
  obtain ⟨k, rfl⟩ := Int.eq_ofNat_of_zero_le hk0
  obtain ⟨n, rfl⟩ := Int.eq_ofNat_of_zero_le hn0
  refine (add_calls v base m xs k n w hown hb (by omega) (by omega) hm).mono ?_
  rintro e w' ⟨v', rfl, h1, h2, _⟩
  exact ⟨v', rfl, by simpa using h1, h2.mono (fun i _ hi => own_new hown i hi)⟩

theorem good_calls (x : Item) (w : World) :
    Calls Try.prog 69 #[.agg #[.string x.key, .string x.val, .int .u32 x.flags.toNat, .int .i64 x.exp.toInt, .int .u64 x.ver.toNat]] w fun e w' => e = .returned (.bool x.good) ∧ Chg No w w' := by
  by_cases c1 : 1 ≤ x.key.size
  · by_cases c2 : x.key.size ≤ 250
    · by_cases c3 : x.val.size ≤ 1024
      · rw [show x.good = decide (0 < x.ver.toNat) from by simp [Item.good, c1, c2, c3]]
        go_enter Try.func69, Try.ntmps69
        go_wp2
        go_ret
        exact ⟨by simp, by (repeat (first | (with_reducible exact Chg.refl _ _) | (with_reducible assumption) | (with_reducible refine Chg.drewN ?_ _) | (with_reducible refine Chg.drew ?_) | (with_reducible refine Chg.alloc ?_ _) | (with_reducible refine Chg.setCell ?_ (by first | (left; simp [DevH.foot]; done) | (right; simp; done) | (right; simp; omega)) _)))⟩
      · rw [show x.good = false from by simp [Item.good, c3]]
        go_enter Try.func69, Try.ntmps69
        go_wp2
        go_ret
        exact ⟨rfl, by (repeat (first | (with_reducible exact Chg.refl _ _) | (with_reducible assumption) | (with_reducible refine Chg.drewN ?_ _) | (with_reducible refine Chg.drew ?_) | (with_reducible refine Chg.alloc ?_ _) | (with_reducible refine Chg.setCell ?_ (by first | (left; simp [DevH.foot]; done) | (right; simp; done) | (right; simp; omega)) _)))⟩
    · rw [show x.good = false from by simp [Item.good, c2]]
      go_enter Try.func69, Try.ntmps69
      go_wp2
      go_ret
      exact ⟨rfl, by (repeat (first | (with_reducible exact Chg.refl _ _) | (with_reducible assumption) | (with_reducible refine Chg.drewN ?_ _) | (with_reducible refine Chg.drew ?_) | (with_reducible refine Chg.alloc ?_ _) | (with_reducible refine Chg.setCell ?_ (by first | (left; simp [DevH.foot]; done) | (right; simp; done) | (right; simp; omega)) _)))⟩
  · rw [show x.good = false from by simp only [Item.good, c1]; simp]
    go_enter Try.func69, Try.ntmps69
    go_wp2
    go_ret
    exact ⟨rfl, by (repeat (first | (with_reducible exact Chg.refl _ _) | (with_reducible assumption) | (with_reducible refine Chg.drewN ?_ _) | (with_reducible refine Chg.drew ?_) | (with_reducible refine Chg.alloc ?_ _) | (with_reducible refine Chg.setCell ?_ (by first | (left; simp [DevH.foot]; done) | (right; simp; done) | (right; simp; omega)) _)))⟩

theorem size_calls (x : Item) (w : World) (h1 : x.key.size ≤ 140737488351232) (h2 : x.val.size ≤ 140737488351232) :
    Calls Try.prog 68 #[.agg #[.string x.key, .string x.val, .int .u32 x.flags.toNat, .int .i64 x.exp.toInt, .int .u64 x.ver.toNat]] w fun e w' => e = .returned (.int .i64 x.size) ∧ Chg No w w' := by
  go_enter Try.func68, Try.ntmps68
  go_wp2
  go_ret
  exact ⟨ret_int (by simp [Item.size]), by (repeat (first | (with_reducible exact Chg.refl _ _) | (with_reducible assumption) | (with_reducible refine Chg.drewN ?_ _) | (with_reducible refine Chg.drew ?_) | (with_reducible refine Chg.alloc ?_ _) | (with_reducible refine Chg.setCell ?_ (by first | (left; simp [DevH.foot]; done) | (right; simp; done) | (right; simp; omega)) _)))⟩
end Go.Proofs.Ytcmobcbecbajiaa
