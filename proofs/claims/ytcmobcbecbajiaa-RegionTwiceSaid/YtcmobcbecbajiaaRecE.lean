/- rec.Take, the other ways; and all ways together. -/
import Derived.Test.YtcmobcbecbajiaaRecD
namespace Go.Proofs.Ytcmobcbecbajiaa
open Go.RowKit
set_option linter.unusedSimpArgs false
set_option linter.unusedVariables false

theorem take_nil (A : Option Addr) (c : Nat) (w : World) :
    Calls Try.prog 63 #[.slice A 0 c] w fun e w' => e = .returned (.tuple #[itemV Item.zero, .int .i64 0, .int .i64 5]) ∧ Chg No w w' := by
  go_enter Try.func63, Try.ntmps63
  go_wp2
  exact bodyPost_ret (v := .tuple #[itemV Item.zero, .int .i64 0, .int .i64 5]) (by simp [results, Try.results63, go_sem]; exact ⟨rfl, rfl, rfl, rfl, rfl⟩) rfl ⟨rfl, by (repeat (first | (with_reducible exact Chg.refl _ _) | (with_reducible assumption) | (with_reducible refine Chg.drewN ?_ _) | (with_reducible refine Chg.drew ?_) | (with_reducible refine Chg.alloc ?_ _) | (with_reducible refine Chg.setCell ?_ (by first | (left; simp [DevH.foot]; done) | (right; simp; done) | (right; simp; omega)) _)))⟩

theorem take_zero (g off n c : Nat) (w : World) (hn : 0 < n) (hnl : n ≤ 140737488351232) (c0 : w.cell? ⟨g, off, none⟩ = some (.int .u8 0)) (hg : g < w.heap.size) :
    Calls Try.prog 63 #[.slice (some ⟨g, off, none⟩) n c] w fun e w' => e = .returned (.tuple #[itemV Item.zero, .int .i64 0, .int .i64 5]) ∧ Chg No w w' := by
  have n0 : ((n : Int) == 0) = false := by simp; omega
  go_enter Try.func63, Try.ntmps63
  go_wp2
  exact bodyPost_ret (v := .tuple #[itemV Item.zero, .int .i64 0, .int .i64 5]) (by simp [results, Try.results63, go_sem]; exact ⟨rfl, rfl, rfl, rfl, rfl⟩) rfl ⟨rfl, by (repeat (first | (with_reducible exact Chg.refl _ _) | (with_reducible assumption) | (with_reducible refine Chg.drewN ?_ _) | (with_reducible refine Chg.drew ?_) | (with_reducible refine Chg.alloc ?_ _) | (with_reducible refine Chg.setCell ?_ (by first | (left; simp [DevH.foot]; done) | (right; simp; done) | (right; simp; omega)) _)))⟩

theorem take_short (g off n c : Nat) (x0 : UInt8) (w : World) (hn : 0 < n) (h32 : n < 32) (c0 : w.cell? ⟨g, off, none⟩ = some (.int .u8 x0.toNat)) (hg : g < w.heap.size) (h0 : ((x0.toNat : Int) == 0) = false) :
    Calls Try.prog 63 #[.slice (some ⟨g, off, none⟩) n c] w fun e w' => e = .returned (.tuple #[itemV Item.zero, .int .i64 0, .int .i64 3]) ∧ Chg No w w' := by
  have n0 : ((n : Int) == 0) = false := by simp; omega
  have n32 : decide ((n : Int) < 32) = true := by simp; omega
  go_enter Try.func63, Try.ntmps63
  go_wp2_with fail
  go_quiet (fail)
  go_wp2
  exact bodyPost_ret (v := .tuple #[itemV Item.zero, .int .i64 0, .int .i64 3]) (by simp [results, Try.results63, go_sem]; exact ⟨rfl, rfl, rfl, rfl, rfl⟩) rfl ⟨rfl, by (repeat (first | (with_reducible exact Chg.refl _ _) | (with_reducible assumption) | (with_reducible refine Chg.drewN ?_ _) | (with_reducible refine Chg.drew ?_) | (with_reducible refine Chg.alloc ?_ _) | (with_reducible refine Chg.setCell ?_ (by first | (left; simp [DevH.foot]; done) | (right; simp; done) | (right; simp; omega)) _)))⟩

theorem take_wrong3 (g off n c : Nat) (x0 x3 : UInt8) (w : World) (h32 : 32 ≤ n) (hnl : n ≤ 140737488351232) (c0 : w.cell? ⟨g, off, none⟩ = some (.int .u8 x0.toNat)) (c3 : w.cell? ⟨g, off + 3, none⟩ = some (.int .u8 x3.toNat)) (hg : g < w.heap.size) (h0 : ((x0.toNat : Int) == 0) = false) (h3 : ((x3.toNat : Int) != 82) = true) :
    Calls Try.prog 63 #[.slice (some ⟨g, off, none⟩) n c] w fun e w' => e = .returned (.tuple #[itemV Item.zero, .int .i64 0, .int .i64 3]) ∧ Chg No w w' := by
  have n0 : ((n : Int) == 0) = false := by simp; omega
  have n32 : decide ((n : Int) < 32) = false := by simp; omega
  go_enter Try.func63, Try.ntmps63
  go_wp2_with fail
  go_quiet (fail)
  go_wp2
  exact bodyPost_ret (v := .tuple #[itemV Item.zero, .int .i64 0, .int .i64 3]) (by simp [results, Try.results63, go_sem]; exact ⟨rfl, rfl, rfl, rfl, rfl⟩) rfl ⟨rfl, by (repeat (first | (with_reducible exact Chg.refl _ _) | (with_reducible assumption) | (with_reducible refine Chg.drewN ?_ _) | (with_reducible refine Chg.drew ?_) | (with_reducible refine Chg.alloc ?_ _) | (with_reducible refine Chg.setCell ?_ (by first | (left; simp [DevH.foot]; done) | (right; simp; done) | (right; simp; omega)) _)))⟩

set_option maxRecDepth 100000 in
set_option maxHeartbeats 1000000 in
theorem take_far (g off n c : Nat) (b : List UInt8) (w : World) (hr : Rd w tU8 (some ⟨g, off, none⟩) n (bys b)) (hn : n ≤ 140737488351232) (hcap : n ≤ c) (x0 : UInt8) (hx0 : b[0]? = some x0) (h0 : ((x0.toNat : Int) == 0) = false)
    (h32 : 32 ≤ n) (hx3 : b[3]? = some 82) (hend : ¬ endOf b ≤ n) :
    Calls Try.prog 63 #[.slice (some ⟨g, off, none⟩) n c] w fun e w' => e = .returned (.tuple #[itemV Item.zero, .int .i64 0, .int .i64 3]) ∧ Chg No w w' := by
  have hcell : ∀ (j : Nat) (x : UInt8), b[j]? = some x → w.cell? ⟨g, off + j, none⟩ = some (.int .u8 x.toNat) := by
    intro j x hj
    have hk : 0 < n := by omega
    obtain ⟨g', off', e, hlt, hx⟩ := hr.at_ hk
    simp only [Option.some.injEq, Addr.mk.injEq, and_true] at e
    obtain ⟨rfl, rfl⟩ := e
    exact hx j _ (by simp [bys, hj])
  have hg : g < w.heap.size := by
    obtain ⟨g', off', cur, fz, e, hb, _⟩ := hr.2 (by omega)
    simp only [Option.some.injEq, Addr.mk.injEq, and_true] at e
    rw [e.1]
    exact (Array.getElem?_eq_some_iff.1 hb).1
  have hbl : b.length = n := by rw [← bys_length]; exact hr.1
  have hk0 : keyLen b = x0.toNat := by unfold keyLen; rw [List.getD_eq_getElem?_getD, hx0]; rfl
  obtain ⟨v, hv⟩ : ∃ v, v = valLen b := ⟨_, rfl⟩
  have hv16 : v < 65536 := by
    rw [hv]
    have h1 := num_lt (cut b 1 3)
    have h2 : (cut b 1 3).length ≤ 2 := by simp [cut]; omega
    have h3 : 256 ^ (cut b 1 3).length ≤ 256 ^ 2 := Nat.pow_le_pow_right (by decide) h2
    unfold valLen
    omega
  have hendv : endOf b = 32 + x0.toNat + v := by unfold endOf; rw [hk0, hv]
  have hen : ¬ 32 + x0.toNat + v ≤ n := by omega
  have c0 := hcell 0 x0 hx0
  have c3 := hcell 3 82 hx3
  simp at c0 c3
  have n24 : ¬ c = 24 := by omega
  have n28 : ¬ c = 28 := by omega
  have n1 : ¬ c = 1 := by omega
  have n32n : decide ((n : Int) < 32) = false := by simp; omega
  have HR := Lib.hid hr
  obtain ⟨q1, hq1⟩ : ∃ q, q = num (cut b 24 28) := ⟨_, rfl⟩
  obtain ⟨k1, hk1⟩ : ∃ k, k = crc (cut b 0 24) := ⟨_, rfl⟩
  have wk1 : IntKind.u64.wrap (k1 : Int) = k1 := wraps_u64 _ (by omega) (by have := crc_lt (cut b 0 24); omega)
  have H1 := fun W k => Lib.hid (number_calls (some ⟨g, off + 24, none⟩) 4 (c - 24) (cut b 24 28) ((w.alloc W).drewN k) ((hr.window 24 28 (by omega) (by omega)).alloc W) (by omega))
  have H2 := fun W k => Lib.hid (crc_calls (some ⟨g, off, none⟩) 24 c (cut b 0 24) ((w.alloc W).drewN k) ((hr.window 0 24 (by omega) (by omega)).alloc W) (by omega))
  have H3 := fun W k => Lib.hid (number_calls (some ⟨g, off + 1, none⟩) 2 (c - 1) (cut b 1 3) ((w.alloc W).drewN k) ((hr.window 1 3 (by omega) (by omega)).alloc W) (by omega))
  rw [← hq1] at H1
  rw [← hk1] at H2
  have e3 : num (cut b 1 3) = v := hv.symm
  rw [e3] at H3
  have HQ1 := Lib.hid hq1
  have HX0 := Lib.hid hx0
  have HX3 := Lib.hid hx3
  have HL := Lib.hid hbl
  have HK0 := Lib.hid hk0
  have HK1 := Lib.hid hk1
  have HV := Lib.hid hv
  have HE := Lib.hid hendv
  have n0 : ((n : Int) == 0) = false := by simp; omega
  have x0p : 0 < x0.toNat := by simp at h0; omega
  have nend : decide ((n : Int) < 32 + (x0.toNat : Int) + (v : Int)) = true := by simp; omega
  have nend' : (n : Int) < 32 + (x0.toNat : Int) + (v : Int) := by omega
  have hx256 : (x0.toNat : Int) < 256 := by have := x0.toNat_lt; omega
  clear hr hcell hx0 hx3 hq1 hk1 hv hendv hend hk0 e3 hbl
  go_enter Try.func63, Try.ntmps63
  go_wp2_with fail
  go_quiet ((first | (go_at_call 87; exact quiet_left (H1 _ _).out) | (go_at_call 84; exact quiet_left (H2 _ _).out)))
  go_wp2_with fail
  · go_wp2
    exact bodyPost_ret (v := .tuple #[itemV Item.zero, .int .i64 0, .int .i64 3]) (by simp [results, Try.results63, go_sem]; exact ⟨rfl, rfl, rfl, rfl, rfl⟩) rfl ⟨rfl, by (repeat (first | (with_reducible exact Chg.refl _ _) | (with_reducible assumption) | (with_reducible refine Chg.drewN ?_ _) | (with_reducible refine Chg.drew ?_) | (with_reducible refine Chg.alloc ?_ _) | (with_reducible refine Chg.setCell ?_ (by first | (left; simp [DevH.foot]; done) | (right; simp; done) | (right; simp; omega)) _)))⟩
  · go_quiet ((first | (go_at_call 87; exact quiet_add_left (H3 _ _).out)))
    go_wp2_with fail
    go_quiet (fail)
    go_wp2
    exact bodyPost_ret (v := .tuple #[itemV Item.zero, .int .i64 0, .int .i64 3]) (by simp [results, Try.results63, go_sem]; exact ⟨rfl, rfl, rfl, rfl, rfl⟩) rfl ⟨rfl, by (repeat (first | (with_reducible exact Chg.refl _ _) | (with_reducible assumption) | (with_reducible refine Chg.drewN ?_ _) | (with_reducible refine Chg.drew ?_) | (with_reducible refine Chg.alloc ?_ _) | (with_reducible refine Chg.setCell ?_ (by first | (left; simp [DevH.foot]; done) | (right; simp; done) | (right; simp; omega)) _)))⟩

theorem take_calls (A : Option Addr) (n c : Nat) (b : List UInt8) (w : World) (hr : Rd w tU8 A n (bys b)) (hn : n ≤ 140737488351232) (hcap : n ≤ c) :
    Calls Try.prog 63 #[.slice A n c] w fun e w' => e = .returned (.tuple #[itemV (take b).item, .int .i64 (take b).len, .int .i64 (take b).err]) ∧ Chg No w w' := by
  have hbl : b.length = n := by rw [← bys_length]; exact hr.1
  rcases Nat.eq_zero_or_pos n with rfl | hpos
  · have : take b = .none := by unfold take; rw [if_pos (.inl hbl)]
    rw [this]
    exact take_nil A c w
  · obtain ⟨g, off, rfl, hg, hx⟩ := hr.at_ hpos
    have hcell : ∀ (j : Nat) (x : UInt8), b[j]? = some x → w.cell? ⟨g, off + j, none⟩ = some (.int .u8 x.toNat) := fun j x hj => hx j _ (by simp [bys, hj])
    obtain ⟨x0, h0⟩ : ∃ x0, b[0]? = some x0 := ⟨_, List.getElem?_eq_getElem (by omega)⟩
    have c0 := hcell 0 x0 h0
    simp at c0
    have e0 : b.getD 0 0 = x0 := by rw [List.getD_eq_getElem?_getD, h0]; rfl
    by_cases hz : x0 = 0
    · have : take b = .none := by unfold take; rw [if_pos (.inr (by rw [e0, hz]))]
      rw [this]
      subst hz
      exact take_zero g off n c w hpos hn c0 hg
    · have hxp : 0 < x0.toNat := by
        rcases Nat.eq_zero_or_pos x0.toNat with h | h
        · exact absurd (UInt8.toNat_inj.1 (by rw [h]; rfl)) hz
        · exact h
      have hb0 : ((x0.toNat : Int) == 0) = false := by simp; omega
      by_cases h32 : n < 32
      · rw [take_b3 b n x0 hbl h0 hxp (.inl h32)]
        exact take_short g off n c x0 w hpos h32 c0 hg hb0
      · obtain ⟨x3, h3⟩ : ∃ x3, b[3]? = some x3 := ⟨_, List.getElem?_eq_getElem (by omega)⟩
        by_cases hx3 : x3 = 82
        · subst hx3
          by_cases he : endOf b ≤ n
          · exact take_long g off n c b w hr hn hcap x0 h0 hb0 (by omega) h3 he
          · rw [take_end b n x0 hbl h0 hxp he]
            exact take_far g off n c b w hr hn hcap x0 h0 hb0 (by omega) h3 he
        · have e3 : b.getD 3 0 = x3 := by rw [List.getD_eq_getElem?_getD, h3]; rfl
          rw [take_b3 b n x0 hbl h0 hxp (.inr (by rw [e3]; exact hx3))]
          refine take_wrong3 g off n c x0 x3 w (by omega) hn c0 (hcell 3 x3 h3) hg hb0 ?_
          simp only [bne_iff_ne]
          intro h
          apply hx3
          have h82 : x3.toNat = (82 : UInt8).toNat := by simp; omega
          exact UInt8.toNat_inj.1 h82
end Go.Proofs.Ytcmobcbecbajiaa
