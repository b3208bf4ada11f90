/- cellaretlaw8.awake: the walk. -/
import Derived.Test.YtinofdfjaopdcaaAwake
import Derived.Deep.DrawnRows
namespace Go.Proofs.Ytinofdfjaopdcaa
open Go.RowKit
attribute [local go_sem ↓] Go.wp_at_zero Go.wp_at_succ
set_option linter.unusedSimpArgs false
set_option linter.unusedVariables false

theorem it_lit (key : ByteArray) (n : Int) (v : UInt64) (hn : n = (v.toNat : Int)) (w : World) :
    Calls Try.prog 46 #[.string key, .int .u64 n] w fun e w' => e = .returned (itemV (itI key v)) ∧ Chg No w w' := by subst hn; exact it_calls key v w

theorem rd_two (w : World) (x y : Item) : Rd (w.alloc (.cells #[.string x.key, .string x.val, .int .u32 x.flags.toNat, .int .i64 x.exp.toInt, .int .u64 x.ver.toNat, .string y.key, .string y.val, .int .u32 y.flags.toNat, .int .i64 y.exp.toInt, .int .u64 y.ver.toNat] tItem)) tItem (some ⟨w.heap.size, 0, none⟩) 10 (its [x, y]) :=
  Rd.ofBlk (k := 10) (Blk.new w tItem _) (by simp)

set_option maxRecDepth 100000 in
set_option maxHeartbeats 4000000 in
theorem awake_calls (w : World) : Calls Try.prog 24 #[] w fun e w' => e = .returned (.bool true) ∧ Chg No w w' := by
  have I1 := fun W => Lib.hid (it_lit kA 1 1 rfl W)
  have I2 := fun W => Lib.hid (it_lit kB 2 2 rfl W)
  have I3 := fun W => Lib.hid (it_lit kA 3 3 rfl W)
  have HN := Lib.hid (aw_new w)
  go_enter Try.func24, Try.ntmps24
  go_wp2_with fail
  refine HN.out.mono ?_
  rintro e w1 ⟨h, rfl, hd1, hc1, hf1⟩
  have HO := Lib.hid (aw_open hd1)
  have HF1 := Lib.hid hf1
  have HC1 := Lib.hid hc1
  clear hd1 hc1 hf1
  go_wp2_with fail
  refine HO.out.mono ?_
  rintro e w2 ⟨t, rfl, hh, hc2, hq2⟩
  have HH2 := Lib.hid hh
  have HOW : Hid (∀ k, Own h t k → w.heap.size ≤ k) := by
    rintro k (hk | ⟨p, hp, rfl⟩)
    · exact HF1.out k hk
    · exact Nat.le_trans HC1.out.size (hq2 p hp)
  have HC2 : Hid (Chg No w w2) := HC1.out.then hc2 (fun i hi hT => by have := HF1.out i hT; omega)
  have hpt : ∀ W : World, (binOp .eql 44 (.pointer (some ⟨t.s, 0, none⟩)) (.pointer none)).run Try.prog W = .ok (.bool false) W := fun _ => rfl
  clear hh hc2 hq2 HO
  go_wp2_with fail
  refine (I1 _).out.mono ?_
  rintro e w3 ⟨rfl, hc3⟩
  have HH3 := Lib.hid (HH2.out.chgNo hc3)
  have HC3 : Hid (Chg No w w3) := HC2.out.trans hc3
  clear hc3
  go_wp2_with fail
  refine (aw_put1 HH3.out).mono ?_
  rintro e w4 ⟨v4, rfl, hh4, hc4⟩
  have HH4 := Lib.hid hh4
  have HC4 : Hid (Chg No w w4) := HC3.out.then hc4 (fun i hi hT => by have := HOW.out i hT; omega)
  clear hh4 hc4
  go_wp2_with fail
  refine (I2 _).out.mono ?_
  rintro e w5 ⟨rfl, hc5⟩
  have HH5 := Lib.hid (HH4.out.chgNo hc5)
  have HC5 : Hid (Chg No w w5) := HC4.out.trans hc5
  clear hc5
  go_wp2_with fail
  refine (aw_put2 HH5.out).mono ?_
  rintro e w6 ⟨v6, rfl, hh6, hc6⟩
  have HH6 := Lib.hid hh6
  have HC6 : Hid (Chg No w w6) := HC5.out.then hc6 (fun i hi hT => by have := HOW.out i hT; omega)
  clear hh6 hc6
  go_wp2_with fail
  refine (I3 _).out.mono ?_
  rintro e w7 ⟨rfl, hc7⟩
  have HH7 := Lib.hid (HH6.out.chgNo hc7)
  have HC7 : Hid (Chg No w w7) := HC6.out.trans hc7
  clear hc7
  go_wp2_with fail
  refine (aw_put3 HH7.out).mono ?_
  rintro e w8 ⟨v8, rfl, hh8, hc8⟩
  have HH8 := Lib.hid hh8
  have HC8 : Hid (Chg No w w8) := HC7.out.then hc8 (fun i hi hT => by have := HOW.out i hT; omega)
  clear hh8 hc8
  go_wp2_with fail
  refine (aw_items HH8.out).mono ?_
  rintro e w9 ⟨v9, rfl, ho9, hh9, hc9⟩
  have HH9 := Lib.hid hh9
  have HO9 := Lib.hid ho9
  have HC9 : Hid (Chg No w w9) := HC8.out.then hc9 (fun i hi hT => by have := HOW.out i hT; omega)
  clear hh9 hc9 ho9
  go_wp2_with fail
  refine (aw_get1 HH9.out).mono ?_
  rintro e w10 ⟨rfl, hh10, hc10⟩
  have HH10 := Lib.hid hh10
  have HO10 := Lib.hid (own_chg HO9.out hc10 (fun k hk hT => by have h1 := own_new HO9.out k hk; have h2 := HH8.out.lt hT; omega))
  have HC10 : Hid (Chg No w w10) := HC9.out.then hc10 (fun i hi hT => by have := HOW.out i hT; omega)
  clear hh10 hc10
  have HD11 := fun W => Lib.hid (fun hc : Chg No w10 W => aw_drop (HH10.out.chgNo hc))
  go_wp2_with fail
  refine ((HD11 _).out (by (repeat (first | (with_reducible exact Chg.refl _ _) | (with_reducible assumption) | (with_reducible refine Chg.drewN ?_ _) | (with_reducible refine Chg.drew ?_) | (with_reducible refine Chg.alloc ?_ _) | (with_reducible refine Chg.setCell ?_ (by first | (left; simp [DevH.foot]; done) | (right; simp; done) | (right; simp; omega)) _))))).mono ?_
  rintro e w11 ⟨rfl, hh11, hc11⟩
  have hh10' := HH10.out.chgNo ((Chg.refl No w10).alloc (.cells #[.string b2.key, .string b2.val, .int .u32 b2.flags.toNat, .int .i64 b2.exp.toInt, .int .u64 b2.ver.toNat] tItem))
  have hB := Blk.new w10 tItem #[.string b2.key, .string b2.val, .int .u32 b2.flags.toNat, .int .i64 b2.exp.toInt, .int .u64 b2.ver.toNat]
  have HB11 := Lib.hid (hB.chg hc11 (hh10'.far hB (by decide) (by decide) (by decide)))
  have HH11 := Lib.hid hh11
  have HO11 := Lib.hid (own_chg (own_chg HO10.out ((Chg.refl No w10).alloc _) (fun _ _ h => h)) hc11 (fun k hk hT => by have h1 := own_new HO9.out k hk; have h2 := HH8.out.lt hT; omega))
  have HC11 : Hid (Chg No w w11) := (HC10.out.alloc _).then hc11 (fun i hi hT => by have := HOW.out i hT; omega)
  clear hh10' hB hh11 hc11 HD11
  go_wp2_with fail
  refine (aw_get2 HH11.out).mono ?_
  rintro e w12 ⟨rfl, hh12, hc12⟩
  have HB12 := Lib.hid (HB11.out.chg hc12 (HH11.out.far HB11.out (by decide) (by decide) (by decide)))
  have HH12 := Lib.hid hh12
  have HO12 := Lib.hid (own_chg HO11.out hc12 (fun k hk hT => by have h1 := own_new HO9.out k hk; have h2 := HH8.out.lt hT; omega))
  have HC12 : Hid (Chg No w w12) := HC11.out.then hc12 (fun i hi hT => by have := HOW.out i hT; omega)
  clear hh12 hc12
  obtain ⟨A9, c9, rfl, hnc9, hrd9⟩ := own_slice HO12.out
  have HRD0 := Lib.hid hrd9
  clear hrd9
  go_wp2_with fail
  have hb12 := HB12.out
  have hh12 := HH12.out
  have hc12 := HC12.out
  have hrd9 := HRD0.out
  clear HRD0
  have hI2 : ∀ W, Hid (Calls Try.prog 46 #[.string kB, .int .u64 2] W fun e w' => e = .returned (itemV b2) ∧ Chg No W w') := I2
  have hI3 : ∀ W, Hid (Calls Try.prog 46 #[.string kA, .int .u64 3] W fun e w' => e = .returned (itemV a3) ∧ Chg No W w') := I3
  clear hpt HO12 HB12 HH12 HC12 HC11 HO11 HH11 HB11 HC10 HO10 HH10 HC9 HO9 HH9 HC8 HH8 HC7 HH7 HC6 HH6 HC5 HH5 HC4 HH4 HC3 HH3 HC2 HH2 HOW HC1 HF1 HN I1 I2 I3
  generalize w10.heap.size = gb at hb12 ⊢
  generalize hx : b2 = x at hb12 hrd9 hI2 ⊢
  generalize hy : a3 = y at hrd9 hI3
  refine wp_forget (F := fun W => Han W h t sD4 sB3 [[a3]] ∧ Blk W gb tItem #[.string x.key, .string x.val, .int .u32 x.flags.toNat, .int .i64 x.exp.toInt, .int .u64 x.ver.toNat] ∧ Rd W tItem A9 10 (its [x, y]) ∧ Chg No w W) ⟨hh12.chgNo ((Chg.refl _ _).alloc _), hb12.alloc _, hrd9.alloc _, hc12.alloc _⟩ ?_
  clear hh12 hb12 hrd9 hc12 hx hy
  rintro W ⟨hh12, hb12, hrd9, hc12⟩
  have HH12 := Lib.hid hh12
  have HC12 := Lib.hid hc12
  have HRD := Lib.hid hrd9
  have HCB := fun W' => Lib.hid (fun hc : Chg No W W' => hb12.chg hc (fun h => h))
  have HMB := fun W' => Lib.hid (fun hc : Chg No W W' => (aw_may_b ▸ hmay (HH12.out.chgNo hc) kB (by decide) : Calls Try.prog 30 #[.pointer (some ⟨t.s, 0, none⟩), .string kB] W' fun e w' => e = .returned (.bool true) ∧ Chg No W' w'))
  have HMZ := fun W' => Lib.hid (fun hc : Chg No W W' => (aw_may_z ▸ hmay (HH12.out.chgNo hc) kZ (by decide) : Calls Try.prog 30 #[.pointer (some ⟨t.s, 0, none⟩), .string kZ] W' fun e w' => e = .returned (.bool false) ∧ Chg No W' w'))
  have b0 := hb12.cell 0
  have b1 := hb12.cell 1
  have b2' := hb12.cell 2
  have b3 := hb12.cell 3
  have b4 := hb12.cell 4
  have hlt12 := hb12.lt
  simp at b0 b1 b2' b3 b4
  clear hh12 hrd9 hc12 hb12 hnc9
  have heq : ∀ W : World, (binOp .eql tItem (itemV x) (itemV x)).run Try.prog W = .ok (.bool true) W := fun W => by rw [run_eql_item]; simp
  go_region_held3 (fun w' => w'.cell? ⟨gb, 0, none⟩ = some (.string x.key) ∧ w'.cell? ⟨gb, 1, none⟩ = some (.string x.val) ∧ w'.cell? ⟨gb, 2, none⟩ = some (.int .u32 x.flags.toNat) ∧ w'.cell? ⟨gb, 3, none⟩ = some (.int .i64 x.exp.toInt) ∧ w'.cell? ⟨gb, 4, none⟩ = some (.int .u64 x.ver.toNat)) (first | go_keep)
    ((first
      | (go_at_call 46
         first | refine (hI2 _).out.mono ?_ | refine (hI3 _).out.mono ?_
         rintro e w13 ⟨rfl, hc13⟩
         have HC13 : Chg No W w13 := (by (repeat (first | (with_reducible exact Chg.refl _ _) | (with_reducible assumption) | (with_reducible refine Chg.drewN ?_ _) | (with_reducible refine Chg.drew ?_) | (with_reducible refine Chg.alloc ?_ _) | (with_reducible refine Chg.setCell ?_ (by first | (left; simp [DevH.foot]; done) | (right; simp; done) | (right; simp; omega)) _))) : Chg No W _).trans hc13
         clear hc13
         have hcc := (HCB w13).out HC13
         have g0 := hcc.cell 0
         have g1 := hcc.cell 1
         have g2 := hcc.cell 2
         have g3 := hcc.cell 3
         have g4 := hcc.cell 4
         clear hcc
         simp at g0 g1 g2 g3 g4)
      | (go_at_call 33
         refine (lists_calls A9 _ c9 2 [x, y] [x, y] _ (HRD.out.chg (by (repeat (first | (with_reducible exact Chg.refl _ _) | (with_reducible assumption) | (with_reducible refine Chg.drewN ?_ _) | (with_reducible refine Chg.drew ?_) | (with_reducible refine Chg.alloc ?_ _) | (with_reducible refine Chg.setCell ?_ (by first | (left; simp [DevH.foot]; done) | (right; simp; done) | (right; simp; omega)) _))) : Chg No W _) (fun _ _ _ _ h => h)) (rd_two _ x y) (by simp) (by simp)).mono ?_
         rintro e w14 ⟨rfl, hc14⟩
         have HC14 : Chg No W w14 := (by (repeat (first | (with_reducible exact Chg.refl _ _) | (with_reducible assumption) | (with_reducible refine Chg.drewN ?_ _) | (with_reducible refine Chg.drew ?_) | (with_reducible refine Chg.alloc ?_ _) | (with_reducible refine Chg.setCell ?_ (by first | (left; simp [DevH.foot]; done) | (right; simp; done) | (right; simp; omega)) _))) : Chg No W _).trans hc14
         clear hc14
         have hcc := (HCB w14).out HC14
         have g0 := hcc.cell 0
         have g1 := hcc.cell 1
         have g2 := hcc.cell 2
         have g3 := hcc.cell 3
         have g4 := hcc.cell 4
         clear hcc
         simp at g0 g1 g2 g3 g4)
      | (go_at_call 30
         first
           | (refine ((HMB _).out (by (repeat (first | (with_reducible exact Chg.refl _ _) | (with_reducible assumption) | (with_reducible refine Chg.drewN ?_ _) | (with_reducible refine Chg.drew ?_) | (with_reducible refine Chg.alloc ?_ _) | (with_reducible refine Chg.setCell ?_ (by first | (left; simp [DevH.foot]; done) | (right; simp; done) | (right; simp; omega)) _))))).mono ?_; clear HMB)
           | (refine ((HMZ _).out (by (repeat (first | (with_reducible exact Chg.refl _ _) | (with_reducible assumption) | (with_reducible refine Chg.drewN ?_ _) | (with_reducible refine Chg.drew ?_) | (with_reducible refine Chg.alloc ?_ _) | (with_reducible refine Chg.setCell ?_ (by first | (left; simp [DevH.foot]; done) | (right; simp; done) | (right; simp; omega)) _))))).mono ?_)
         rintro e w15 ⟨rfl, hc15⟩
         have HC15 : Chg No W w15 := (by (repeat (first | (with_reducible exact Chg.refl _ _) | (with_reducible assumption) | (with_reducible refine Chg.drewN ?_ _) | (with_reducible refine Chg.drew ?_) | (with_reducible refine Chg.alloc ?_ _) | (with_reducible refine Chg.setCell ?_ (by first | (left; simp [DevH.foot]; done) | (right; simp; done) | (right; simp; omega)) _))) : Chg No W _).trans hc15
         clear hc15
         have hcc := (HCB w15).out HC15
         have g0 := hcc.cell 0
         have g1 := hcc.cell 1
         have g2 := hcc.cell 2
         have g3 := hcc.cell 3
         have g4 := hcc.cell 4
         clear hcc
         simp at g0 g1 g2 g3 g4)))
  go_wp2
  go_ret
  exact ⟨rfl, HC12.out.trans HC15⟩
end Go.Proofs.Ytinofdfjaopdcaa
