/- RegionKnown, walked. -/
import Derived.Test.YtcmobcbecbajiaaRegU
namespace Go.Proofs.Ytcmobcbecbajiaa
open Go.RowKit
open Go.ChangeMaps (setBlock)
attribute [local go_sem ↓] Go.wp_at_zero Go.wp_at_succ
set_option linter.unusedSimpArgs false
set_option linter.unusedVariables false

def Lg.new1 : Lg := { losses := 0, first := 3, regs := [.no], opn := [], number := 0, keys := [] }
theorem new1_opened : Lg.opened (Dev.new 7) 3 1 = .new1 := by
  have hb := load_blank (P := (Dev.new 7).rpg 3 0) (fun k _ => rfl)
  have hr : opRegs (Dev.new 7) 3 1 = [.no] := by
    unfold opRegs
    rw [show List.range 1 = [0] from rfl, List.map_cons, List.map_nil, hb.1]
  have ht : opTop (Dev.new 7) 3 1 = 0 := by
    unfold opTop
    rw [show List.range 1 = [0] from rfl, List.foldl_cons, List.foldl_nil, hb.2]
  unfold Lg.opened
  rw [hr, ht]
  rfl
theorem zero_fits : Lg.fits Item.zero = false := by decide
theorem new1_put (D : Dev) : Lg.new1.put D Item.zero = ⟨.new1, D, [], 1⟩ := by
  unfold Lg.put
  rw [zero_fits]; rfl
theorem new1_sl (D : Dev) : Lg.new1.sl D = ⟨.new1, D, [], 0⟩ := rfl
theorem new1_get : Lg.new1.getE kJ = 5 ∧ Lg.new1.get kJ = Item.zero := ⟨rfl, rfl⟩

set_option maxRecDepth 100000 in
set_option maxHeartbeats 8000000 in
theorem rknown_calls (w : World) : Calls Try.prog 4 #[] w fun e w' => e = .returned (.bool true) ∧ Chg No w w' := by
  have HA := Lib.hid (awake9_calls w)
  have HN := fun W => Lib.hid (new_calls 7 W (by omega) (by omega))
  go_enter Try.func4, Try.ntmps4
  go_wp2_with fail
  refine HA.out.mono ?_
  rintro e w0 ⟨rfl, hc0⟩
  have HC0 := Lib.hid hc0
  clear hc0 HA
  go_wp2_with fail
  refine (HN _).out.mono ?_
  rintro e w1 ⟨h, rfl, hd1, hc1, hf1⟩
  have hd1' : DevAt w1 h (Dev.new 7) := hd1
  have HB := Lib.hid (gopen_bad hd1' 0 2 (by omega) (by omega) (by omega) (by show (7 : Nat) < 0 + 4 * 2; omega))
  have HD1 := Lib.hid hd1'
  have HC1 := Lib.hid hc1
  have HF := Lib.hid hf1
  clear hd1 hd1' hc1 hf1 HN
  go_wp2_with fail
  refine HB.out.mono ?_
  rintro e w2 ⟨rfl, hc2⟩
  have HOP := Lib.hid (Hlog.opened (first := 3) (n := 1) (DevN.chgNo HD1.out hc2).at_ HF.out (HC1.out.trans hc2) (by omega) (by omega) (by show 3 + 4 * 1 ≤ (7 : Nat); omega) rfl)
  rw [new1_opened] at HOP
  clear hc2 HB HD1
  go_wp2_with fail
  refine HOP.out.mono ?_
  rintro e w3 ⟨t, rfl, hh3, _, hc3⟩
  have HP := Lib.hid (hh3.put Item.zero (by decide) (by decide))
  rw [new1_put] at HP
  clear hh3 hc3 HOP
  go_wp2_with fail
  refine HP.out.mono ?_
  rintro e w4 ⟨v4, t4, rfl, hp⟩
  have HL4 := Lib.hid hp.L
  have hh4 : Hlog w0 h t4 .new1 (Dev.new 7) w4 := hp.st
  have HS := Lib.hid hh4.shut
  rw [new1_sl, hp.L] at HS
  clear hp HP hh4
  go_wp2_with fail
  refine HS.out.mono ?_
  rintro e w5 ⟨v5, t5, rfl, hp5⟩
  have HL5 : Hid (t5.L = t.L) := hp5.L.trans HL4.out
  have hh5 : Hlog w0 h t5 .new1 (Dev.new 7) w5 := hp5.st
  have ho5 := hp5.lost
  obtain ⟨A5, c5, hv5, hn5, _⟩ := own_slice ho5
  have hv5' : v5 = .slice A5 0 c5 := hv5
  subst hv5'
  have HG := Lib.hid (gget_calls hh5.log kJ)
  rw [new1_get.1, new1_get.2, HL5.out] at HG
  have HH5 := Lib.hid hh5
  clear hp5 HS hh5 ho5 hv5 hn5
  go_wp2_with fail
  refine HG.out.mono ?_
  rintro e w6 ⟨rfl, hc6⟩
  have HNU := fun W => Lib.hid (fun hc : Chg No w6 W => gnum_calls ((HH5.out.log.chgNo hc6).chgNo hc))
  rw [HL5.out] at HNU
  have HC6 : Hid (Chg No w w6) := HC0.out.trans (HH5.out.chg.trans hc6)
  clear hc6 HG
  go_wp2_with fail
  refine ((HNU _).out (by (repeat (first | (with_reducible exact Chg.refl _ _) | (with_reducible assumption) | (with_reducible refine Chg.drewN ?_ _) | (with_reducible refine Chg.drew ?_) | (with_reducible refine Chg.alloc ?_ _) | (with_reducible refine Chg.setCell ?_ (by first | (left; simp [DevH.foot]; done) | (right; simp; done) | (right; simp; omega)) _))))).mono ?_
  rintro e w7 ⟨rfl, hw7⟩
  have HC7 : Hid (Chg No w6 w7) := by show Chg _ _ _; rw [← hw7]; (repeat (first | (with_reducible exact Chg.refl _ _) | (with_reducible assumption) | (with_reducible refine Chg.drewN ?_ _) | (with_reducible refine Chg.drew ?_) | (with_reducible refine Chg.alloc ?_ _) | (with_reducible refine Chg.setCell ?_ (by first | (left; simp [DevH.foot]; done) | (right; simp; done) | (right; simp; omega)) _)))
  clear hw7
  go_wp2
  go_ret
  exact ⟨rfl, HC6.out.trans HC7.out⟩
end Go.Proofs.Ytcmobcbecbajiaa
