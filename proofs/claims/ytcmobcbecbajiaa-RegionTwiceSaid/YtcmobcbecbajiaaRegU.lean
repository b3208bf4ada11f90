/- layer 9's awake, walked. -/
import Derived.Test.YtcmobcbecbajiaaRegT
namespace Go.Proofs.Ytcmobcbecbajiaa
open Go.RowKit
open Go.ChangeMaps (setBlock)
attribute [local go_sem ↓] Go.wp_at_zero Go.wp_at_succ
set_option linter.unusedSimpArgs false
set_option linter.unusedVariables false

def kJ : ByteArray := ⟨#[97]⟩
def j1 : Item := itJ kJ 1
def j2 : Item := itJ kJ 2
theorem fits_j1 : Lg.fits j1 = true := by decide
theorem fits_j2 : Lg.fits j2 = true := by decide
def aD : Dev := ((Lg.new2.add j1).wrote (Dev.new 8)).1
theorem a_seal : (Lg.new2.add j1).sl (Dev.new 8) = ⟨Lg.one 0 j1, aD, [], 0⟩ := (seal_one 8 (by omega) (by omega) fits_j1).1
theorem aD_has : HasOne aD j1 ∧ aD.On ∧ aD.n = 8 ∧ aD.losses = 0 ∧ ∀ i, aD.wt i = none := (seal_one 8 (by omega) (by omega) fits_j1).2
theorem a_open : Lg.opened aD.on 0 2 = Lg.one aD.on.losses j1 := open_one (aD_has.1.on aD_has.2.2.2.2) fits_j1

set_option maxRecDepth 100000 in
set_option maxHeartbeats 8000000 in
theorem awake9_calls (w : World) : Calls Try.prog 23 #[] w fun e w' => e = .returned (.bool true) ∧ Chg No w w' := by
  have HN := Lib.hid (new_calls 8 w (by omega) (by omega))
  have I1 : ∀ W, Hid (Calls Try.prog 33 #[.string ⟨#[97]⟩, .int .u64 1] W fun e w' => e = .returned (itemV j1) ∧ Chg No W w') := fun W => it9_calls kJ 1 W
  have I2 : ∀ W, Hid (Calls Try.prog 33 #[.string ⟨#[97]⟩, .int .u64 2] W fun e w' => e = .returned (itemV j2) ∧ Chg No W w') := fun W => it9_calls kJ 2 W
  go_enter Try.func23, Try.ntmps23
  go_wp2_with fail
  refine HN.out.mono ?_
  rintro e w1 ⟨h, rfl, hd1, hc1, hf1⟩
  have HOP := Lib.hid (Hlog.opened (first := 0) (n := 2) hd1 hf1 hc1 (by omega) (by omega) (by show 0 + 4 * 2 ≤ (8 : Nat); omega) rfl)
  rw [show Dev.new (8 : Int).toNat = Dev.new 8 from rfl, new2_opened] at HOP
  clear hd1 hc1 HN
  have HF := Lib.hid hf1
  clear hf1
  go_wp2_with fail
  refine HOP.out.mono ?_
  rintro e w2 ⟨t, rfl, hh, _, hc⟩
  have HH2 := Lib.hid hh
  clear hh hc HOP
  go_wp2_with fail
  refine (I1 _).out.mono ?_
  rintro e w3 ⟨rfl, hc3⟩
  have HP := Lib.hid ((HH2.out.chgNo hc3).put j1 (by decide) (by decide))
  rw [put_new2 _ fits_j1] at HP
  clear hc3 I1
  go_wp2_with fail
  refine HP.out.mono ?_
  rintro e w4 ⟨v4, t4, rfl, hp⟩
  have HL4 := Lib.hid hp.L
  have HH4 : Hlog w h t4 (Lg.new2.add j1) (Dev.new 8) w4 := hp.st
  have HS := Lib.hid HH4.shut
  rw [a_seal, hp.L] at HS
  clear hp HP HH4
  go_wp2_with fail
  refine HS.out.mono ?_
  rintro e w5 ⟨v5, t5, rfl, hp5⟩
  have HL5 : Hid (t5.L = t.L) := hp5.L.trans HL4.out
  have HH5 : Hid (Hlog w h t5 (Lg.one 0 j1) aD w5) := hp5.st
  clear hp5 HS HL4 HH2
  go_wp2_with fail
  refine (I2 _).out.mono ?_
  rintro e w6 ⟨rfl, hc6⟩
  have HP := Lib.hid ((HH5.out.chgNo hc6).put j2 (by decide) (by decide))
  rw [(one_put 0 j1 j2 aD fits_j2 rfl).1, HL5.out] at HP
  clear hc6 HH5
  go_wp2_with fail
  refine HP.out.mono ?_
  rintro e w7 ⟨v7, t7, rfl, hp7⟩
  have HL7 : Hid (t7.L = t.L) := hp7.L.trans HL5.out
  have HH7 : Hid (Hlog w h t7 ((Lg.one 0 j1).add j2) aD w7) := hp7.st
  clear hp7 HP HL5
  have HG := Lib.hid (gget_calls HH7.out.log kJ)
  have hg7 := (one_put 0 j1 j2 aD fits_j2 rfl).2
  rw [show kJ = j1.key from rfl, hg7.1, hg7.2.1, HL7.out] at HG
  clear hg7
  go_wp2_with fail
  refine HG.out.mono ?_
  rintro e w8 ⟨rfl, hc8⟩
  have HH8 := Lib.hid (HH7.out.chgNo hc8)
  clear hc8 HG HH7
  have HGB : ∀ W, Hid (Chg No w8 W → Calls Try.prog 40 #[.pointer (some ⟨h.d, 0, none⟩)] W fun e w' => e = .returned (.tuple #[]) ∧ DevAt w' h aD.on ∧ Chg h.foot W w') := fun W hc => on_calls (HH8.out.chgNo hc).dev
  go_wp2_with fail
  obtain ⟨gx, hgx⟩ : ∃ gx, w8.heap.size = gx := ⟨_, rfl⟩
  rw [hgx]
  refine ((HGB _).out (by (repeat (first | (with_reducible exact Chg.refl _ _) | (with_reducible assumption) | (with_reducible refine Chg.drewN ?_ _) | (with_reducible refine Chg.drew ?_) | (with_reducible refine Chg.alloc ?_ _) | (with_reducible refine Chg.setCell ?_ (by first | (left; simp [DevH.foot]; done) | (right; simp; done) | (right; simp; omega)) _))))).mono ?_
  rintro e w9 ⟨rfl, hd9, hc9⟩
  have hh9 := HH8.out.chgNo ((Chg.refl No w8).alloc (.cells (itc j2).toArray tItem))
  have hlx : Loc h t7 gx := by rw [← hgx]; exact Loc.ofNew HH8.out
  have hbx := Blk.new w8 tItem (itc j2).toArray
  rw [hgx] at hbx
  have HBX := Lib.hid (hbx.chg hc9 hlx.foot)
  have HG9 : Hid (LgAt w9 h t7 ((Lg.one 0 j1).add j2)) := hh9.log.foot hh9.dev hc9
  have HC9 : Hid (Chg No w w9) := hh9.chg.then hc9 (fun i hi hT => by have := HF.out i hT; omega)
  have HLX := Lib.hid hlx
  have HOP := Lib.hid (Hlog.opened (first := 0) (n := 2) hd9 HF.out HC9.out (by omega) (by omega) (by show 0 + 4 * 2 ≤ aD.n; rw [aD_has.2.2.1]; omega) rfl)
  rw [a_open] at HOP
  have hgs : gx < w9.heap.size := HBX.out.lt
  have HOWN7 : Hid (∀ k, t7.own k → k < w9.heap.size) := HG9.out.lt
  have HDV9 := Lib.hid hd9
  clear hh9 hlx hbx hc9 hd9 HGB
  go_wp2_with fail
  refine HOP.out.mono ?_
  rintro e w10 ⟨t', rfl, hh10, ho10, hc10⟩
  have HH10 := Lib.hid hh10
  have HG10 : Hid (LgAt w10 h t7 ((Lg.one 0 j1).add j2)) := HG9.out.foot HDV9.out hc10
  have HB10 : Hid (Blk w10 gx tItem (itc j2).toArray) := HBX.out.chg hc10 HLX.out.foot
  have HO10 : Hid (t'.own t'.M → w9.heap.size ≤ t'.M) := ho10 _
  have HS10 : Hid (w9.heap.size ≤ w10.heap.size) := hc10.size
  have HGT := Lib.hid (gget_calls HH10.out.log kJ)
  have hg10 := one_get aD.on.losses j1
  rw [show kJ = j1.key from rfl, hg10.1, hg10.2.1] at HGT
  have HONE := Lib.hid hg10
  clear hg10 hh10 ho10 hc10 HOP HH8 HG9 HBX
  go_wp2_with fail
  refine HGT.out.mono ?_
  rintro e w11 ⟨rfl, hc11⟩
  have HH11 := Lib.hid (HH10.out.chgNo hc11)
  have HG11 := Lib.hid (HG10.out.chgNo hc11)
  have HB11 := Lib.hid (HB10.out.chg hc11 (fun h => h))
  have HC11 : Hid (Chg No w10 w11) := hc11
  clear hc11 HGT HH10 HG10 HB10
  have HNU := fun W => Lib.hid (fun hc : Chg No w11 W => gnum_calls (HH11.out.log.chgNo hc))
  have hbn : byNum (Lg.one aD.on.losses j1).regs = [1] := rfl
  have HIT := fun W => Lib.hid (fun hc : Chg No w11 W => items_calls (HH11.out.log.chgNo hc) (by show 2 < 20; omega) (by rw [hbn]; intro i hi; simp at hi; subst hi; show 1 < 2; omega) (by rw [hbn]; simp))
  rw [HONE.out.2.2.1] at HIT
  have HDR := fun W => Lib.hid (fun hc : Chg No w11 W => gdrop_calls (HH11.out.log.chgNo hc) kJ)
  clear hbn
  go_wp2_with fail
  obtain ⟨gy, hgy⟩ : ∃ gy, w11.heap.size = gy := ⟨_, rfl⟩
  rw [hgy]
  refine ((HNU _).out (by (repeat (first | (with_reducible exact Chg.refl _ _) | (with_reducible assumption) | (with_reducible refine Chg.drewN ?_ _) | (with_reducible refine Chg.drew ?_) | (with_reducible refine Chg.alloc ?_ _) | (with_reducible refine Chg.setCell ?_ (by first | (left; simp [DevH.foot]; done) | (right; simp; done) | (right; simp; omega)) _))))).mono ?_
  rintro e w12 ⟨rfl, hw12⟩
  have HC12 : Hid (Chg No w11 w12) := by show Chg _ _ _; rw [← hw12]; (repeat (first | (with_reducible exact Chg.refl _ _) | (with_reducible assumption) | (with_reducible refine Chg.drewN ?_ _) | (with_reducible refine Chg.drew ?_) | (with_reducible refine Chg.alloc ?_ _) | (with_reducible refine Chg.setCell ?_ (by first | (left; simp [DevH.foot]; done) | (right; simp; done) | (right; simp; omega)) _)))
  have HY12 : Hid (Blk w12 gy tItem (itc j1).toArray) := by
    show Blk _ _ _ _
    rw [← hw12, ← hgy]; exact Blk.new _ _ _
  have HGY : Hid (w11.heap.size = gy) := hgy
  clear hw12 hgy HNU
  go_wp2_with fail
  refine ((HIT _).out HC12.out).mono ?_
  rintro e w13 ⟨v13, rfl, ho13, hc13⟩
  obtain ⟨A13, c13, rfl, hnc13, hrd13⟩ := own_slice ho13
  have HC13 : Hid (Chg No w11 w13) := HC12.out.trans hc13
  have HY13 : Hid (Blk w13 gy tItem (itc j1).toArray) := HY12.out.chg hc13 (fun h => h)
  clear ho13 hc13 hrd13 HIT HY12 HC12
  go_wp2_with fail
  refine ((HDR _).out HC13.out).mono ?_
  rintro e w14 ⟨rfl, hl14, hc14⟩
  have HL14 : Hid (LgAt w14 h t' ((Lg.one aD.on.losses j1).drop kJ)) := hl14
  have HM : Hid (w9.heap.size ≤ t'.M) := HO10.out HH11.out.log.ownM
  have HG14 : Hid (LgAt w14 h t7 ((Lg.one 0 j1).add j2)) := (HG11.out.chgNo HC13.out).chg hc14 (fun k hk e => by have h1 := HOWN7.out k hk; have h2 := HM.out; omega)
  have HX14 : Hid (Blk w14 gx tItem (itc j2).toArray) := (HB11.out.chg HC13.out (fun h => h)).chg hc14 (fun e => by have h2 := HM.out; omega)
  have HY14 : Hid (Blk w14 gy tItem (itc j1).toArray) := HY13.out.chg hc14 (fun e => by have h2 := HH11.out.log.map.lt; have h3 := HGY.out; omega)
  have HC14 : Hid (Chg No w w14) := (HH11.out.chg.trans HC13.out).then hc14 (fun i hi e => by have h1 := HC9.out.size; have h2 := HM.out; omega)
  clear hl14 hc14 HDR HY13 HB11 HG11 HC13 HM HO10 HOWN7 HC9 HDV9
  go_wp2_with fail
  have hI1 : ∀ W, Hid (Calls Try.prog 33 #[.string ⟨#[97]⟩, .int .u64 1] W fun e w' => e = .returned (itemV j1) ∧ Chg No W w') := fun W => it9_calls kJ 1 W
  have hI2 : ∀ W, Hid (Calls Try.prog 33 #[.string ⟨#[97]⟩, .int .u64 2] W fun e w' => e = .returned (itemV j2) ∧ Chg No W w') := fun W => it9_calls kJ 2 W
  have hMF0 : ∀ W', Chg No w14 W' → Calls Try.prog 35 #[.pointer (some ⟨t'.L, 0, none⟩), .string ⟨#[97]⟩] W' fun e w' => e = .returned (.bool false) ∧ Chg No W' w' := fun W' hc => by
    have := may_key (key := kJ) (HL14.out.chgNo hc)
    rw [show ((Lg.one aD.on.losses j1).drop kJ).has kJ = false from HONE.out.2.2.2.1] at this
    exact this
  have hMT0 : ∀ W', Chg No w14 W' → Calls Try.prog 35 #[.pointer (some ⟨t.L, 0, none⟩), .string ⟨#[97]⟩] W' fun e w' => e = .returned (.bool true) ∧ Chg No W' w' := fun W' hc => by
    have := may_key (key := kJ) (HG14.out.chgNo hc)
    rw [show ((Lg.one 0 j1).add j2).has kJ = true from (one_put 0 j1 j2 aD fits_j2 rfl).2.2.2, HL7.out] at this
    exact this
  have hx14 := HX14.out
  have hy14 := HY14.out
  clear I2 HX14 HY14 HL14 HG14 HONE HH11 HL7 HLX HGY HC11 HS10 HF hgs
  generalize hxx : j2 = x at hx14 hI2 ⊢
  generalize hyy : j1 = y at hy14 hI1 ⊢
  refine wp_forget (F := fun W => Chg No w14 W ∧ Chg No w W) ⟨Chg.refl _ _, HC14.out⟩ ?_
  rintro W ⟨hcW, hCW⟩
  have HCW := Lib.hid hCW
  have HXB := fun W' => Lib.hid (fun hc : Chg No W W' => (hx14.chg (hcW.trans hc) (fun h => h)))
  have HYB := fun W' => Lib.hid (fun hc : Chg No W W' => (hy14.chg (hcW.trans hc) (fun h => h)))
  have HMF := fun W' => Lib.hid (fun hc : Chg No W W' => hMF0 W' (hcW.trans hc))
  have HMT := fun W' => Lib.hid (fun hc : Chg No W W' => hMT0 W' (hcW.trans hc))
  have hbx := (HXB W).out (Chg.refl _ _)
  have hby := (HYB W).out (Chg.refl _ _)
  have x0 := hbx.cell 0
  have x1 := hbx.cell 1
  have x2 := hbx.cell 2
  have x3 := hbx.cell 3
  have x4 := hbx.cell 4
  have y0 := hby.cell 0
  have y1 := hby.cell 1
  have y2 := hby.cell 2
  have y3 := hby.cell 3
  have y4 := hby.cell 4
  have hlx := hbx.lt
  have hly := hby.lt
  simp [itc] at x0 x1 x2 x3 x4 y0 y1 y2 y3 y4
  have heqx : ∀ W : World, (binOp .eql tItem (itemV x) (itemV x)).run Try.prog W = .ok (.bool true) W := fun W => by rw [run_eql_item]; simp
  have heqy : ∀ W : World, (binOp .eql tItem (itemV y) (itemV y)).run Try.prog W = .ok (.bool true) W := fun W => by rw [run_eql_item]; simp
  clear hMF0 hMT0 hx14 hy14 hcW hCW hbx hby HC14 hxx hyy
  go_region_held3 (fun w' => (w'.cell? ⟨gx, 0, none⟩ = some (.string x.key) ∧ w'.cell? ⟨gx, 1, none⟩ = some (.string x.val) ∧ w'.cell? ⟨gx, 2, none⟩ = some (.int .u32 x.flags.toNat) ∧ w'.cell? ⟨gx, 3, none⟩ = some (.int .i64 x.exp.toInt) ∧ w'.cell? ⟨gx, 4, none⟩ = some (.int .u64 x.ver.toNat)) ∧
      w'.cell? ⟨gy, 0, none⟩ = some (.string y.key) ∧ w'.cell? ⟨gy, 1, none⟩ = some (.string y.val) ∧ w'.cell? ⟨gy, 2, none⟩ = some (.int .u32 y.flags.toNat) ∧ w'.cell? ⟨gy, 3, none⟩ = some (.int .i64 y.exp.toInt) ∧ w'.cell? ⟨gy, 4, none⟩ = some (.int .u64 y.ver.toNat)) (first | go_keep)
    ((first
      | (go_at_call 33
         first | (refine (hI2 _).out.mono ?_; clear hI2) | (refine (hI1 _).out.mono ?_)
         rintro e w15 ⟨rfl, hc15⟩
         have HC15 : Chg No W w15 := (by (repeat (first | (with_reducible exact Chg.refl _ _) | (with_reducible assumption) | (with_reducible refine Chg.drewN ?_ _) | (with_reducible refine Chg.drew ?_) | (with_reducible refine Chg.alloc ?_ _) | (with_reducible refine Chg.setCell ?_ (by first | (left; simp [DevH.foot]; done) | (right; simp; done) | (right; simp; omega)) _))) : Chg No W _).trans hc15
         clear hc15
         have hbx := (HXB w15).out HC15
         have hby := (HYB w15).out HC15
         have g0 := hbx.cell 0
         have g1 := hbx.cell 1
         have g2 := hbx.cell 2
         have g3 := hbx.cell 3
         have g4 := hbx.cell 4
         have k0 := hby.cell 0
         have k1 := hby.cell 1
         have k2 := hby.cell 2
         have k3 := hby.cell 3
         have k4 := hby.cell 4
         clear hbx hby
         simp [itc] at g0 g1 g2 g3 g4 k0 k1 k2 k3 k4)
      | (go_at_call 35
         first
           | (refine ((HMF _).out (by (repeat (first | (with_reducible exact Chg.refl _ _) | (with_reducible assumption) | (with_reducible refine Chg.drewN ?_ _) | (with_reducible refine Chg.drew ?_) | (with_reducible refine Chg.alloc ?_ _) | (with_reducible refine Chg.setCell ?_ (by first | (left; simp [DevH.foot]; done) | (right; simp; done) | (right; simp; omega)) _))))).mono ?_; clear HMF)
           | (refine ((HMT _).out (by (repeat (first | (with_reducible exact Chg.refl _ _) | (with_reducible assumption) | (with_reducible refine Chg.drewN ?_ _) | (with_reducible refine Chg.drew ?_) | (with_reducible refine Chg.alloc ?_ _) | (with_reducible refine Chg.setCell ?_ (by first | (left; simp [DevH.foot]; done) | (right; simp; done) | (right; simp; omega)) _))))).mono ?_)
         rintro e w16 ⟨rfl, hc16⟩
         have HC16 : Chg No W w16 := (by (repeat (first | (with_reducible exact Chg.refl _ _) | (with_reducible assumption) | (with_reducible refine Chg.drewN ?_ _) | (with_reducible refine Chg.drew ?_) | (with_reducible refine Chg.alloc ?_ _) | (with_reducible refine Chg.setCell ?_ (by first | (left; simp [DevH.foot]; done) | (right; simp; done) | (right; simp; omega)) _))) : Chg No W _).trans hc16
         clear hc16
         have hbx := (HXB w16).out HC16
         have hby := (HYB w16).out HC16
         have g0 := hbx.cell 0
         have g1 := hbx.cell 1
         have g2 := hbx.cell 2
         have g3 := hbx.cell 3
         have g4 := hbx.cell 4
         have k0 := hby.cell 0
         have k1 := hby.cell 1
         have k2 := hby.cell 2
         have k3 := hby.cell 3
         have k4 := hby.cell 4
         clear hbx hby
         simp [itc] at g0 g1 g2 g3 g4 k0 k1 k2 k3 k4)))
  go_wp2
  go_ret
  exact ⟨rfl, HCW.out.trans (by (repeat (first | (with_reducible exact Chg.refl _ _) | (with_reducible assumption) | (with_reducible refine Chg.drewN ?_ _) | (with_reducible refine Chg.drew ?_) | (with_reducible refine Chg.alloc ?_ _) | (with_reducible refine Chg.setCell ?_ (by first | (left; simp [DevH.foot]; done) | (right; simp; done) | (right; simp; omega)) _))))⟩
end Go.Proofs.Ytcmobcbecbajiaa
