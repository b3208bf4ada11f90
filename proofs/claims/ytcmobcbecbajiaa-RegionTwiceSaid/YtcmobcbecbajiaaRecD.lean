/- rec.Take. -/
import Derived.Test.YtcmobcbecbajiaaRecC
import Derived.Deep.QuietTactic
import Derived.BigQuiet
import Derived.StillTailTactics
import Derived.Deep.DeepCutAuto
namespace Go.Proofs.Ytcmobcbecbajiaa
open Go.RowKit
set_option linter.unusedSimpArgs false
set_option linter.unusedVariables false

theorem quiet_left {P : Program} {f : FuncId} {args : Array Value} {w : World} {n : Nat} {v : Value}
    (h : Calls P f args (w.drewN n) fun e w' => e = .returned v ∧ w.drewN n = w') : Calls P f args (w.drewN n) fun e w' => e = .returned v ∧ ∃ m, w' = w.drewN m :=
  h.mono fun _ _ ⟨he, hm⟩ => ⟨he, n, hm.symm⟩
theorem quiet_add_left {P : Program} {f : FuncId} {args : Array Value} {w : World} {a n : Nat} {v : Value}
    (h : Calls P f args (w.drewN (a + n)) fun e w' => e = .returned v ∧ w.drewN (a + n) = w') :
    Calls P f args (w.drewN (a + n)) fun e w'' => e = .returned v ∧ ∃ m, w'' = w.drewN (a + m) :=
  h.mono fun _ _ ⟨he, hm⟩ => ⟨he, n, hm.symm⟩

/-- the values of an item -/
abbrev itemV (x : Item) : Value := .agg #[.string x.key, .string x.val, .int .u32 x.flags.toNat, .int .i64 x.exp.toInt, .int .u64 x.ver.toNat]

theorem Rd.window {w : World} {t : TypeId} {g off k : Nat} {b : List UInt8} (h : Rd w t (some ⟨g, off, none⟩) k (bys b)) (i j : Nat) (hi : i ≤ j) (hj : j ≤ k) : Rd w t (some ⟨g, off + i, none⟩) (j - i) (bys (cut b i j)) := by
  have h1 := (h.drop (m := i) (by omega) False (fun h => h.elim)).take (m := j - i) (by omega)
  simp only [if_false, Option.map_some] at h1
  have e : (⟨g, off, none⟩ : Addr).add i = ⟨g, off + i, none⟩ := by unfold Addr.add; split <;> simp_all
  rw [e] at h1
  simpa [cut, bys_take, bys_drop] using h1

theorem same_left {P : Program} {f : FuncId} {args : Array Value} {w : World} {v : Value}
    (h : Calls P f args w fun e w' => e = .returned v ∧ w = w') : Calls P f args w fun e w' => e = .returned v ∧ w' = w :=
  h.mono fun _ _ ⟨he, hm⟩ => ⟨he, hm.symm⟩

set_option maxRecDepth 100000 in
theorem num_cut_lt (b : List UInt8) (i j : Nat) : num (cut b i j) < 256 ^ (j - i) := by
  have h1 := num_lt (cut b i j)
  have h2 : (cut b i j).length ≤ j - i := by simp [cut]; omega
  have h3 : 256 ^ (cut b i j).length ≤ 256 ^ (j - i) := Nat.pow_le_pow_right (by decide) h2
  omega
theorem flags_wrap (q : Nat) (h : q < 256 ^ (8 - 4)) : IntKind.u32.wrap (q : Int) = ((UInt32.ofNat q).toNat : Int) := by
  have e : (256 : Nat) ^ (8 - 4) = 4294967296 := by decide
  rw [e] at h
  rw [wraps_u32 _ (by omega) (by omega), UInt32.toNat_ofNat_of_lt' (by exact h)]
theorem ver_wrap (q : Nat) (h : q < 256 ^ (24 - 16)) : (q : Int) = ((UInt64.ofNat q).toNat : Int) := by
  have e : (256 : Nat) ^ (24 - 16) = 18446744073709551616 := by decide
  rw [e] at h
  rw [UInt64.toNat_ofNat_of_lt' (by exact h)]
theorem exp_unwrap (q : Nat) (h : q < 256 ^ (16 - 8)) : IntKind.i64.wrap (q : Int) = ((UInt64.ofNat q).toInt64).toInt := by
  have e : (256 : Nat) ^ (16 - 8) = 18446744073709551616 := by decide
  rw [e] at h
  have h3 : ((UInt64.ofNat q).toInt64).toInt = ((UInt64.ofNat q).toBitVec).toInt := rfl
  rw [h3, BitVec.toInt_eq_toNat_bmod]
  have h4 : (UInt64.ofNat q).toBitVec.toNat = q := UInt64.toNat_ofNat_of_lt' (by exact h)
  rw [h4, IntKind.wrap_i64, Int.bmod_def]
  split <;> omega

theorem take_tail (b : List UInt8) (n : Nat) (x0 : UInt8) (hl : b.length = n) (h0 : b[0]? = some x0) (hx : 0 < x0.toNat) (h32 : 32 ≤ n) (h3 : b[3]? = some 82) (hc1 : num (cut b 24 28) = crc (cut b 0 24)) (he : endOf b ≤ n) (hc2 : num (cut b 28 32) = crc (cut b 32 (endOf b)))
    (it : Item) (hit : it = itemOf b) : take b = if it.good then Tk.ok it (endOf b) else .bad := by
  have e0 : b.getD 0 0 = x0 := by rw [List.getD_eq_getElem?_getD, h0]; rfl
  have e3 : b.getD 3 0 = 82 := by rw [List.getD_eq_getElem?_getD, h3]; rfl
  have e3' : b[3]?.getD 0 = 82 := by rw [h3]; rfl
  have hne : ¬ (b.length = 0 ∨ b.getD 0 0 = 0) := by
    rw [e0]
    rintro (h | h)
    · omega
    · rw [h] at hx; simp at hx
  subst hit
  unfold take
  rw [if_neg hne]
  have hh : headOk b = true := by simp [headOk, e3', hc1, hl, h32]
  have hb : bodyOk b = true := by simp [bodyOk, hc2, hl, he]
  rw [hh, hb]
  simp

theorem take_x0 (b : List UInt8) (n : Nat) (x0 : UInt8) (hl : b.length = n) (h0 : b[0]? = some x0) (hx : 0 < x0.toNat) : ¬ (b.length = 0 ∨ b.getD 0 0 = 0) := by
  have e0 : b.getD 0 0 = x0 := by rw [List.getD_eq_getElem?_getD, h0]; rfl
  have : 0 < b.length := (List.getElem?_eq_some_iff.1 h0).1
  rw [e0]
  rintro (h | h)
  · omega
  · rw [h] at hx; simp at hx
theorem take_head (b : List UInt8) (n : Nat) (x0 : UInt8) (hl : b.length = n) (h0 : b[0]? = some x0) (hx : 0 < x0.toNat) (hc : ¬ num (cut b 24 28) = crc (cut b 0 24)) : take b = .bad := by
  unfold take
  rw [if_neg (take_x0 b n x0 hl h0 hx)]
  have : headOk b = false := by simp [headOk, hc]
  rw [this]; simp
theorem take_body (b : List UInt8) (n : Nat) (x0 : UInt8) (hl : b.length = n) (h0 : b[0]? = some x0) (hx : 0 < x0.toNat) (hc : ¬ num (cut b 28 32) = crc (cut b 32 (endOf b))) : take b = .bad := by
  unfold take
  rw [if_neg (take_x0 b n x0 hl h0 hx)]
  have : bodyOk b = false := by simp [bodyOk, hc]
  rw [this]; simp
theorem take_end (b : List UInt8) (n : Nat) (x0 : UInt8) (hl : b.length = n) (h0 : b[0]? = some x0) (hx : 0 < x0.toNat) (hc : ¬ endOf b ≤ n) : take b = .bad := by
  unfold take
  rw [if_neg (take_x0 b n x0 hl h0 hx)]
  have : bodyOk b = false := by simp [bodyOk, hl]; intro h; omega
  rw [this]; simp
theorem take_b3 (b : List UInt8) (n : Nat) (x0 : UInt8) (hl : b.length = n) (h0 : b[0]? = some x0) (hx : 0 < x0.toNat) (hc : n < 32 ∨ ¬ b.getD 3 0 = 82) : take b = .bad := by
  unfold take
  rw [if_neg (take_x0 b n x0 hl h0 hx)]
  have : headOk b = false := by
    simp only [headOk, hl]
    rcases hc with h | h
    · simp; omega
    · simp at h; simp [h]
  rw [this]; simp

set_option maxRecDepth 100000 in
set_option maxHeartbeats 8000000 in
theorem take_long (g off n c : Nat) (b : List UInt8) (w : World) (hr : Rd w tU8 (some ⟨g, off, none⟩) n (bys b)) (hn : n ≤ 140737488351232) (hcap : n ≤ c) (x0 : UInt8) (hx0 : b[0]? = some x0) (h0 : ((x0.toNat : Int) == 0) = false)
    (h32 : 32 ≤ n) (hx3 : b[3]? = some 82) (hend : endOf b ≤ n) :
    Calls Try.prog 63 #[.slice (some ⟨g, off, none⟩) n c] w fun e w' => e = .returned (.tuple #[itemV (take b).item, .int .i64 (take b).len, .int .i64 (take b).err]) ∧ Chg No w w' := by
  have hcell : ∀ (j : Nat) (x : UInt8), b[j]? = some x → w.cell? ⟨g, off + j, none⟩ = some (.int .u8 x.toNat) := by
    intro j x hj
    have hk : 0 < n := by omega
    obtain ⟨g', off', e, hlt, hx⟩ := hr.at_ hk
    simp only [Option.some.injEq, Addr.mk.injEq, and_true] at e
    obtain ⟨rfl, rfl⟩ := e
    exact hx j _ (by simp [bys, hj])
  have hg : g < w.heap.size := by
    obtain ⟨g', off', cur, fz, e, hb, _⟩ := hr.2 (by omega)
    simp only [Option.some.injEq, Addr.mk.injEq, and_true] at e
    rw [e.1]
    exact (Array.getElem?_eq_some_iff.1 hb).1
  have hbl : b.length = n := by rw [← bys_length]; exact hr.1
  have hk0 : keyLen b = x0.toNat := by unfold keyLen; rw [List.getD_eq_getElem?_getD, hx0]; rfl
  obtain ⟨v, hv⟩ : ∃ v, v = valLen b := ⟨_, rfl⟩
  have hv16 : v < 65536 := by
    rw [hv]
    have h1 := num_lt (cut b 1 3)
    have h2 : (cut b 1 3).length ≤ 2 := by simp [cut]; omega
    have h3 : 256 ^ (cut b 1 3).length ≤ 256 ^ 2 := Nat.pow_le_pow_right (by decide) h2
    unfold valLen
    omega
  have hendv : endOf b = 32 + x0.toNat + v := by unfold endOf; rw [hk0, hv]
  have hen : 32 + x0.toNat + v ≤ n := by omega
  have c0 := hcell 0 x0 hx0
  have c3 := hcell 3 82 hx3
  simp at c0 c3
  have n24 : ¬ c = 24 := by omega
  have n28 : ¬ c = 28 := by omega
  have n1 : ¬ c = 1 := by omega
  have n32n : decide ((n : Int) < 32) = false := by simp; omega
  have HR := Lib.hid hr
  obtain ⟨q1, hq1⟩ : ∃ q, q = num (cut b 24 28) := ⟨_, rfl⟩
  obtain ⟨k1, hk1⟩ : ∃ k, k = crc (cut b 0 24) := ⟨_, rfl⟩
  have wk1 : IntKind.u64.wrap (k1 : Int) = k1 := wraps_u64 _ (by omega) (by have := crc_lt (cut b 0 24); omega)
  have H1 := fun W k => Lib.hid (number_calls (some ⟨g, off + 24, none⟩) 4 (c - 24) (cut b 24 28) ((w.alloc W).drewN k) ((hr.window 24 28 (by omega) (by omega)).alloc W) (by omega))
  have H2 := fun W k => Lib.hid (crc_calls (some ⟨g, off, none⟩) 24 c (cut b 0 24) ((w.alloc W).drewN k) ((hr.window 0 24 (by omega) (by omega)).alloc W) (by omega))
  have H3 := fun W k => Lib.hid (number_calls (some ⟨g, off + 1, none⟩) 2 (c - 1) (cut b 1 3) ((w.alloc W).drewN k) ((hr.window 1 3 (by omega) (by omega)).alloc W) (by omega))
  rw [← hq1] at H1
  rw [← hk1] at H2
  have e3 : num (cut b 1 3) = v := hv.symm
  rw [e3] at H3
  have HQ1 := Lib.hid hq1
  have HX0 := Lib.hid hx0
  have HX3 := Lib.hid hx3
  have HL := Lib.hid hbl
  have HK0 := Lib.hid hk0
  have HK1 := Lib.hid hk1
  have HV := Lib.hid hv
  have HE := Lib.hid hendv
  have n0 : ((n : Int) == 0) = false := by simp; omega
  have x0p : 0 < x0.toNat := by simp at h0; omega
  have n32 : ¬ c = 32 := by omega
  have nend : decide ((n : Int) < 32 + (x0.toNat : Int) + (v : Int)) = false := by simp; omega
  have hendI : (32 : Int) + (x0.toNat : Int) + (v : Int) ≤ (c : Int) := by omega
  have en : ((32 : Int) + (x0.toNat : Int) + (v : Int)).toNat = 32 + x0.toNat + v := by omega
  obtain ⟨q2, hq2⟩ : ∃ q, q = num (cut b 28 32) := ⟨_, rfl⟩
  obtain ⟨k2, hk2⟩ : ∃ k, k = crc (cut b 32 (32 + x0.toNat + v)) := ⟨_, rfl⟩
  have wk2 : IntKind.u64.wrap (k2 : Int) = k2 := wraps_u64 _ (by omega) (by have := crc_lt (cut b 32 (32 + x0.toNat + v)); omega)
  have H4 := fun W k => Lib.hid (number_calls (some ⟨g, off + 28, none⟩) 4 (c - 28) (cut b 28 32) ((w.alloc W).drewN k) ((hr.window 28 32 (by omega) (by omega)).alloc W) (by omega))
  have H5 := fun W k => Lib.hid (crc_calls (some ⟨g, off + 32, none⟩) (32 + x0.toNat + v - 32) (c - 32) (cut b 32 (32 + x0.toNat + v)) ((w.alloc W).drewN k) ((hr.window 32 (32 + x0.toNat + v) (by omega) (by omega)).alloc W) (by omega))
  rw [← hq2] at H4
  rw [← hk2] at H5
  have HQ2 := Lib.hid hq2
  have HK2 := Lib.hid hk2
  clear hr hcell hx0 hx3 hq1 hk1 hv hendv hend hk0 e3 hbl hq2 hk2
  go_enter Try.func63, Try.ntmps63
  go_wp2_with fail
  go_quiet ((first | (go_at_call 87; exact quiet_left (H1 _ _).out) | (go_at_call 84; exact quiet_left (H2 _ _).out)))
  go_wp2_with fail
  · go_wp2
    refine bodyPost_ret (v := .tuple #[itemV Item.zero, .int .i64 0, .int .i64 3]) (by simp [results, Try.results63, go_sem]; exact ⟨rfl, rfl, rfl, rfl, rfl⟩) rfl ⟨?_, by (repeat (first | (with_reducible exact Chg.refl _ _) | (with_reducible assumption) | (with_reducible refine Chg.drewN ?_ _) | (with_reducible refine Chg.drew ?_) | (with_reducible refine Chg.alloc ?_ _) | (with_reducible refine Chg.setCell ?_ (by first | (left; simp [DevH.foot]; done) | (right; simp; done) | (right; simp; omega)) _)))⟩
    rw [take_head b n x0 HL.out HX0.out x0p (by rw [← HQ1.out, ← HK1.out]; have := ‹((q1 : Int) != (k1 : Int)) = true›; simp at this; omega)]
    rfl
  · go_quiet ((first | (go_at_call 87; exact quiet_add_left (H3 _ _).out)))
    go_wp2_with fail
    go_quiet ((first | (go_at_call 87; exact quiet_add_left (H4 _ _).out) | (go_at_call 84; exact quiet_add_left (H5 _ _).out)))
    go_wp2_with fail
    · go_wp2
      refine bodyPost_ret (v := .tuple #[itemV Item.zero, .int .i64 0, .int .i64 3]) (by simp [results, Try.results63, go_sem]; exact ⟨rfl, rfl, rfl, rfl, rfl⟩) rfl ⟨?_, by (repeat (first | (with_reducible exact Chg.refl _ _) | (with_reducible assumption) | (with_reducible refine Chg.drewN ?_ _) | (with_reducible refine Chg.drew ?_) | (with_reducible refine Chg.alloc ?_ _) | (with_reducible refine Chg.setCell ?_ (by first | (left; simp [DevH.foot]; done) | (right; simp; done) | (right; simp; omega)) _)))⟩
      rw [take_body b n x0 HL.out HX0.out x0p (by rw [HE.out, ← HQ2.out, ← HK2.out]; have := ‹((q2 : Int) != (k2 : Int)) = true›; simp at this; omega)]
      rfl
    · refine wp_forget (fun W => Rd W tU8 (some ⟨g, off, none⟩) n (bys b) ∧ Blk W w.heap.size 38 #[.string ⟨#[]⟩, .string ⟨#[]⟩, .int .u32 0, .int .i64 0, .int .u64 0] ∧ Chg No w W) ?_ ?_
      · simp only [World.drewN_drewN]
        exact ⟨(HR.out.alloc _).drewN _, (Blk.new w _ _).drewN _, by (repeat (first | (with_reducible exact Chg.refl _ _) | (with_reducible assumption) | (with_reducible refine Chg.drewN ?_ _) | (with_reducible refine Chg.drew ?_) | (with_reducible refine Chg.alloc ?_ _) | (with_reducible refine Chg.setCell ?_ (by first | (left; simp [DevH.foot]; done) | (right; simp; done) | (right; simp; omega)) _)))⟩
      rintro W9 ⟨hr9, hb9, hc9⟩
      have HR9 := Lib.hid hr9
      have HB9 := Lib.hid hb9
      have HC9 := Lib.hid hc9
      obtain ⟨A1, hs1, hd1⟩ := sub_slice (P := Try.prog) Try.underlying31 ti_u8 (some ⟨g, off, none⟩) n c 32 (32 + (x0.toNat : Int)) (by omega) (by omega) (by omega)
      obtain ⟨A2, hs2, hd2⟩ := sub_slice (P := Try.prog) Try.underlying31 ti_u8 (some ⟨g, off, none⟩) n c (32 + (x0.toNat : Int)) (32 + (x0.toNat : Int) + (v : Int)) (by omega) (by omega) (by omega)
      have e10 : ((32 : Int)).toNat = 32 := rfl
      have e11 : (32 + (x0.toNat : Int)).toNat = 32 + x0.toNat := by omega
      have e12 : 32 + x0.toNat - 32 = x0.toNat := by omega
      have e13 : 32 + x0.toNat + v - (32 + x0.toNat) = v := by omega
      rw [e10, e11, e12] at hs1
      rw [e11, en, e13] at hs2
      have hcv1 : ∀ W : World, Rd W tU8 (some ⟨g, off, none⟩) n (bys b) → (convert tBytes 9 (.slice A1 x0.toNat (c - 32))).run Try.prog W = .ok (.string ⟨(cut b 32 (32 + x0.toNat)).toArray⟩) W := fun W hW => run_b2s W A1 _ _ _ Try.underlying31 Try.underlying5 Try.underlying9 tU8 (by
        have := hd1 W tU8 (bys b) (by simpa using hW) (by omega)
        rw [e10, e11, e12] at this
        simpa only [cut, bys_take, bys_drop, Nat.mul_one, e12] using this)
      have hcv2 : ∀ W : World, Rd W tU8 (some ⟨g, off, none⟩) n (bys b) → (convert tBytes 9 (.slice A2 v (c - (32 + x0.toNat)))).run Try.prog W = .ok (.string ⟨(cut b (32 + x0.toNat) (32 + x0.toNat + v)).toArray⟩) W := fun W hW => run_b2s W A2 _ _ _ Try.underlying31 Try.underlying5 Try.underlying9 tU8 (by
        have := hd2 W tU8 (bys b) (by simpa using hW) (by omega)
        rw [e11, en, e13] at this
        simpa only [cut, bys_take, bys_drop, Nat.mul_one, e13] using this)
      have HN : ∀ (i l c' : Nat) (W : World), Rd W tU8 (some ⟨g, off, none⟩) n (bys b) → i + l ≤ n → l ≤ 8 → Calls Try.prog 87 #[.slice (some ⟨g, off + i, none⟩) l c'] W fun e w' => e = .returned (.int .u64 (num (cut b i (i + l)))) ∧ W = w' := fun i l c' W hW h1 h2 =>
        number_calls (some ⟨g, off + i, none⟩) l c' (cut b i (i + l)) W (by have := hW.window i (i + l) (by omega) h1; rw [show i + l - i = l from by omega] at this; exact this) h2
      have HNN := Lib.hid HN
      clear HN
      obtain ⟨it, hit⟩ : ∃ it, it = itemOf b := ⟨_, rfl⟩
      have hfl : IntKind.u32.wrap ((num (cut b 4 8) : Nat) : Int) = (it.flags.toNat : Int) := by rw [hit]; exact flags_wrap _ (num_cut_lt b 4 8)
      have hex : IntKind.i64.wrap ((num (cut b 8 16) : Nat) : Int) = it.exp.toInt := by rw [hit]; exact exp_unwrap _ (num_cut_lt b 8 16)
      have hvr : ((num (cut b 16 24) : Nat) : Int) = (it.ver.toNat : Int) := by rw [hit]; exact ver_wrap _ (num_cut_lt b 16 24)
      have hky : (⟨(cut b 32 (32 + x0.toNat)).toArray⟩ : ByteArray) = it.key := by rw [hit]; simp only [itemOf]; rw [HK0.out]
      have hvl : (⟨(cut b (32 + x0.toNat) (32 + x0.toNat + v)).toArray⟩ : ByteArray) = it.val := by rw [hit]; simp only [itemOf]; rw [HK0.out, HE.out]
      have HIT := Lib.hid hit
      clear hit
      have hwr : IntKind.i64.wrap (32 + (x0.toNat : Int)) = 32 + (x0.toNat : Int) := IntWalk.i64_in _ (by have := x0.toNat_lt; omega)
      have n4 : ¬ c = 4 := by omega
      have i8 : (8 : Int) ≤ (c : Int) := by omega
      have i16 : (16 : Int) ≤ (c : Int) := by omega
      have i24 : (24 : Int) ≤ (c : Int) := by omega
      have hs1' : ∀ W : World, (Instr.sliceAt tBytes (.slice (some ⟨g, off, none⟩) n c) (some (.int .i64 32)) (some (.int .i64 (32 + (x0.toNat : Int)))) none).run Try.prog W = _ := fun W => (run_sliceAt_slice W tBytes _ _ _ _ Try.underlying31).trans (hs1 W)
      have hs2' : ∀ W : World, (Instr.sliceAt tBytes (.slice (some ⟨g, off, none⟩) n c) (some (.int .i64 (32 + (x0.toNat : Int)))) (some (.int .i64 (32 + (x0.toNat : Int) + (v : Int)))) none).run Try.prog W = _ := fun W => (run_sliceAt_slice W tBytes _ _ _ _ Try.underlying31).trans (hs2 W)
      have n8 : ¬ c = 8 := by omega
      have n16 : ¬ c = 16 := by omega
      clear hr9 hb9 hc9 hd1 hd2 H1 H2 H3 H4 H5 en e10 e11 e12 e13
      go_region_held3 (fun w' => Rd w' tU8 (some ⟨g, off, none⟩) n (bys b)) (first | assumption | exact HR9.out | exact HR9.out.drew | exact Rd.alloc ‹_› _)
        ((go_at_call 87; refine (HNN.out _ _ _ _ ‹_› (by omega) (by omega)).mono ?_; rintro e w' ⟨rfl, rfl⟩))
      all_goals
        clear hfl hex hvr hky hvl hcv1 hcv2 hs1 hs2 hs1' hs2' HNN hwr n4 n8 n16 i8 i16 i24
        have hz9 : w.heap.size < W9.heap.size := HB9.out.lt
        have HG := fun W => Lib.hid (good_calls it W)
        have HTK : Hid (take b = if it.good then Tk.ok it (endOf b) else .bad) := take_tail b n x0 HL.out HX0.out x0p h32 HX3.out (by rw [← HQ1.out, ← HK1.out]; have := ‹((q1 : Int) != (k1 : Int)) = false›; simp at this; omega) (by rw [HE.out]; exact hen) (by rw [HE.out, ← HQ2.out, ← HK2.out]; have := ‹((q2 : Int) != (k2 : Int)) = false›; simp at this; omega) it HIT.out
        have b0 : W9.cell? ⟨w.heap.size, 0, none⟩ = some (.string ⟨#[]⟩) := by have := HB9.out.cell 0; simpa using this
        have hfz := HB9.out.frozen
        have HF : ∀ w10, Chg No (W9.alloc (.cells #[.string it.key, .string it.val, .int .u32 it.flags.toNat, .int .i64 it.exp.toInt, .int .u64 it.ver.toNat] 38)).drew w10 → Hid (Chg No w w10 ∧ Blk w10 w.heap.size 38 #[.string ⟨#[]⟩, .string ⟨#[]⟩, .int .u32 0, .int .i64 0, .int .u64 0] ∧ Blk w10 W9.heap.size 38 #[.string it.key, .string it.val, .int .u32 it.flags.toNat, .int .i64 it.exp.toInt, .int .u64 it.ver.toNat]) := by
          intro w10 hc
          refine ⟨(((HC9.out).alloc _).drew).trans hc, (((HB9.out.alloc _).drew).chg hc (fun h => h)), ((Blk.new W9 _ _).drew).chg hc (fun h => h)⟩
        cases hgood : it.good
        all_goals
          rw [hgood] at HG
          have HGD := Lib.hid hgood
          clear hgood b0 hfz
          go_wp2_with fail
          refine (HG _).out.mono ?_
          rintro e w10 ⟨rfl, hc10⟩
          have H10 := HF w10 hc10
          have z0 := H10.out.2.1.cell 0
          have z1 := H10.out.2.1.cell 1
          have z2 := H10.out.2.1.cell 2
          have z3 := H10.out.2.1.cell 3
          have z4 := H10.out.2.1.cell 4
          have f0 := H10.out.2.1.frozen 0
          have f1 := H10.out.2.1.frozen 1
          have f2 := H10.out.2.1.frozen 2
          have f3 := H10.out.2.1.frozen 3
          have f4 := H10.out.2.1.frozen 4
          have y0 := H10.out.2.2.cell 0
          have y1 := H10.out.2.2.cell 1
          have y2 := H10.out.2.2.cell 2
          have y3 := H10.out.2.2.cell 3
          have y4 := H10.out.2.2.cell 4
          simp at z0 z1 z2 z3 z4 y0 y1 y2 y3 y4
          clear HF hc10 HG
          have hcc := H10.out.1
          go_wp2
        · refine bodyPost_ret (v := .tuple #[itemV Item.zero, .int .i64 0, .int .i64 3]) (by simp [results, Try.results63, go_sem, z0, z1, z2, z3, z4]; exact ⟨rfl, rfl, rfl, rfl, rfl⟩) rfl ⟨?_, by (repeat (first | (with_reducible exact Chg.refl _ _) | (with_reducible assumption) | (with_reducible refine Chg.drewN ?_ _) | (with_reducible refine Chg.drew ?_) | (with_reducible refine Chg.alloc ?_ _) | (with_reducible refine Chg.setCell ?_ (by first | (left; simp [DevH.foot]; done) | (right; simp; done) | (right; simp; omega)) _)))⟩
          rw [HTK.out, HGD.out]
          rfl
        · refine bodyPost_ret (v := .tuple #[itemV it, .int .i64 (32 + (x0.toNat : Int) + (v : Int)), .int .i64 0]) (by simp [results, Try.results63, go_sem, z0, z1, z2, z3, z4]) rfl ⟨?_, by (repeat (first | (with_reducible exact Chg.refl _ _) | (with_reducible assumption) | (with_reducible refine Chg.drewN ?_ _) | (with_reducible refine Chg.drew ?_) | (with_reducible refine Chg.alloc ?_ _) | (with_reducible refine Chg.setCell ?_ (by first | (left; simp [DevH.foot]; done) | (right; simp; done) | (right; simp; omega)) _)))⟩
          rw [HTK.out, HGD.out, if_pos rfl]
          simp [Tk.item, Tk.len, Tk.err, HE.out]
end Go.Proofs.Ytcmobcbecbajiaa
