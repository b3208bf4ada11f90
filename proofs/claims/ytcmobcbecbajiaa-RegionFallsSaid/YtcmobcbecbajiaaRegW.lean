/- RegionFalls, walked. -/
import Derived.Test.YtcmobcbecbajiaaRegU
namespace Go.Proofs.Ytcmobcbecbajiaa
open Go.RowKit
open Go.ChangeMaps (setBlock)
attribute [local go_sem ↓] Go.wp_at_zero Go.wp_at_succ
set_option linter.unusedSimpArgs false
set_option linter.unusedVariables false

theorem Hlog.drop {w0 w : World} {h : DevH} {t : LgH} {G : Lg} {D : Dev} (H : Hlog w0 h t G D w) (key : ByteArray) :
    Calls Try.prog 34 #[.pointer (some ⟨t.L, 0, none⟩), .string key] w fun e w' => e = .returned (.tuple #[]) ∧ Hlog w0 h t (G.drop key) D w' ∧ Chg (fun k => k = t.M) w w' := by
  refine (gdrop_calls H.log key).mono ?_
  rintro e w' ⟨he, hl, hc⟩
  exact ⟨he, ⟨hl, (dev_map H.dev H.log.map H.log.far hc).at_, H.own, H.foot, H.chg.then hc (fun i hi e => by have := H.own _ H.log.ownM; omega)⟩, hc⟩
theorem put_new2_bad (D : Dev) {x : Item} (h : Lg.fits x = false) : Lg.new2.put D x = ⟨.new2, D, [], 1⟩ := by
  unfold Lg.put
  rw [h]; rfl

set_option maxRecDepth 100000 in
set_option maxHeartbeats 8000000 in
theorem rfalls_calls (x : Item) (w : World) (hk : x.key.size ≤ 140737488351232) (hv : x.val.size ≤ 140737488351232) :
    Calls Try.prog 7 #[itemV x] w fun e w' => e = .returned (.bool true) ∧ Chg No w w' := by
  have HA := fun W => Lib.hid (awake9_calls W)
  have HN := fun W => Lib.hid (new_calls 8 W (by omega) (by omega))
  have hbox := Blk.new w tItem (itc x).toArray
  have HBOX := Lib.hid hbox
  have HKV := Lib.hid (And.intro hk hv)
  clear hk hv hbox
  go_enter Try.func7, Try.ntmps7
  go_wp2_with fail
  refine (HA _).out.mono ?_
  rintro e w0 ⟨rfl, hc0⟩
  have HB0 := Lib.hid (HBOX.out.chg hc0 (fun h => h))
  have HC0 : Hid (Chg No w w0) := ((Chg.refl No w).alloc _).trans hc0
  clear hc0 HA HBOX
  have hw0 := HB0.out.lt
  go_wp2_with fail
  refine (HN _).out.mono ?_
  rintro e w1 ⟨h, rfl, hd1, hc1, hf1⟩
  have HOP := Lib.hid (Hlog.opened (first := 0) (n := 2) hd1 hf1 hc1 (by omega) (by omega) (by show 0 + 4 * 2 ≤ (8 : Nat); omega) rfl)
  rw [show Dev.new (8 : Int).toNat = Dev.new 8 from rfl, new2_opened] at HOP
  have HF := Lib.hid hf1
  clear hd1 hc1 hf1 HN
  go_wp2_with fail
  refine HOP.out.mono ?_
  rintro e w2 ⟨t, rfl, hh2, _, hc2⟩
  have hb2 := HB0.out.chg hh2.chg (fun h => h)
  have a0 := hb2.cell 0
  have a1 := hb2.cell 1
  have a2 := hb2.cell 2
  have a3 := hb2.cell 3
  have a4 := hb2.cell 4
  simp [itc] at a0 a1 a2 a3 a4
  have HP := Lib.hid (hh2.put x HKV.out.1 HKV.out.2)
  have HCH : ∀ W, Hid (Chg No w0 W → Chg No w W) := fun W hc => HC0.out.trans hc
  clear hh2 hc2 hb2 HOP
  cases hfit : Lg.fits x with
  | false =>
    rw [put_new2_bad _ hfit] at HP
    clear hfit
    go_wp2_with fail
    refine HP.out.mono ?_
    rintro e w3 ⟨v3, t3, rfl, hp⟩
    have HH : Hid (Hlog w0 h t3 .new2 (Dev.new 8) w3) := hp.st
    clear hp HP a0 a1 a2 a3 a4
    go_wp2
    go_ret
    exact ⟨rfl, (HCH _).out HH.out.chg⟩
  | true =>
    rw [put_new2 _ hfit] at HP
    have HFIT := Lib.hid hfit
    have hso := seal_one 8 (by omega) (by omega) hfit
    obtain ⟨D2, hD2⟩ : ∃ D2, D2 = ((Lg.new2.add x).wrote (Dev.new 8)).1 := ⟨_, rfl⟩
    rw [← hD2] at hso
    have HSO := Lib.hid hso
    clear hfit hD2 hso
    go_wp2_with fail
    refine HP.out.mono ?_
    rintro e w3 ⟨v3, t3, rfl, hp⟩
    have HL3 := Lib.hid hp.L
    have hh3 : Hlog w0 h t3 (Lg.new2.add x) (Dev.new 8) w3 := hp.st
    have HS := Lib.hid hh3.shut
    rw [HSO.out.1, hp.L] at HS
    clear hp HP a0 a1 a2 a3 a4 hh3
    go_wp2_with fail
    refine HS.out.mono ?_
    rintro e w4 ⟨v4, t4, rfl, hp4⟩
    have HL4 : Hid (t4.L = t.L) := hp4.L.trans HL3.out
    have hh4 : Hlog w0 h t4 (Lg.one 0 x) D2 w4 := hp4.st
    have HDR := Lib.hid (hh4.drop x.key)
    rw [HL4.out] at HDR
    have hb4 := HB0.out.chg hh4.chg (fun h => h)
    have a0 := hb4.cell 0
    simp [itc] at a0
    clear hp4 HS hh4 hb4
    go_wp2_with fail
    refine HDR.out.mono ?_
    rintro e w5 ⟨rfl, hh5, _⟩
    have HH5 := Lib.hid hh5
    have HG := Lib.hid (gget_calls hh5.log x.key)
    have hone := one_get 0 x
    have hgd : ((Lg.one 0 x).drop x.key).get x.key = Item.zero := by simp [Lg.get, Lg.drop, Lg.one, adel, aget]
    rw [hone.2.2.2.2.1, hgd, HL4.out] at HG
    have HONE := Lib.hid hone
    have hb5 := HB0.out.chg hh5.chg (fun h => h)
    have c0 := hb5.cell 0
    simp [itc] at c0
    clear hone hgd hh5 hb5 HDR a0
    go_wp2_with fail
    refine HG.out.mono ?_
    rintro e w6 ⟨rfl, hc6⟩
    have HH6 := Lib.hid (HH5.out.chgNo hc6)
    clear hc6 HG HH5 c0
    have HOP := fun W => Lib.hid (fun hc : Chg No w6 W => Hlog.opened (first := 0) (n := 2) (HH6.out.chgNo hc).dev HF.out (HH6.out.chgNo hc).chg (by omega) (by omega) (by rw [HSO.out.2.2.2.1]; omega) HSO.out.2.2.1.off)
    rw [open_one HSO.out.2.1 HFIT.out, HSO.out.2.2.2.2.1] at HOP
    have hz : w6.heap.size = w6.heap.size := rfl
    go_wp2_with fail
    refine ((HOP _).out (by (repeat (first | (with_reducible exact Chg.refl _ _) | (with_reducible assumption) | (with_reducible refine Chg.drewN ?_ _) | (with_reducible refine Chg.drew ?_) | (with_reducible refine Chg.alloc ?_ _) | (with_reducible refine Chg.setCell ?_ (by first | (left; simp [DevH.foot]; done) | (right; simp; done) | (right; simp; omega)) _))))).mono ?_
    rintro e w7 ⟨t7, rfl, hh7, ho7, hc7⟩
    have HG7 : Hid (LgAt w7 h t4 ((Lg.one 0 x).drop x.key)) := by
      have hb := HH6.out.chgNo ((Chg.refl No w6).alloc (.cells (itc Item.zero).toArray tItem))
      exact hb.log.foot hb.dev hc7
    have HH7 := Lib.hid hh7
    have HGT := Lib.hid (gget_calls hh7.log x.key)
    rw [HONE.out.1, HONE.out.2.1] at HGT
    have hb7 := HB0.out.chg hh7.chg (fun h => h)
    have c0 := hb7.cell 0
    simp [itc] at c0
    clear hh7 ho7 hc7 hb7 HOP hz
    go_wp2_with fail
    refine HGT.out.mono ?_
    rintro e w8 ⟨rfl, hc8⟩
    have HH8 := Lib.hid (HH7.out.chgNo hc8)
    have HG8 := Lib.hid (HG7.out.chgNo hc8)
    have HMAY := fun W => Lib.hid (fun hc : Chg No w8 W => may_key (key := x.key) (HG8.out.chgNo hc))
    rw [HONE.out.2.2.2.1, HL4.out] at HMAY
    have hbn : byNum ((Lg.one 0 x).drop x.key).regs = [1] := rfl
    have HIT := fun W => Lib.hid (fun hc : Chg No w8 W => items_calls (HG8.out.chgNo hc) (by show 2 < 20; omega) (by rw [hbn]; intro i hi; simp at hi; subst hi; show 1 < 2; omega) (by rw [hbn]; simp))
    rw [HONE.out.2.2.2.2.2, HL4.out] at HIT
    have hb8 := HB0.out.chg HH8.out.chg (fun h => h)
    have c0 := hb8.cell 0
    simp [itc] at c0
    have hz8 := hb8.lt
    clear hc8 HGT HH7 HG7 hbn hb8
    go_wp2_with fail
    obtain ⟨gy, hgy⟩ : ∃ gy, w8.heap.size = gy := ⟨_, rfl⟩
    rw [hgy]
    refine ((HMAY _).out (by (repeat (first | (with_reducible exact Chg.refl _ _) | (with_reducible assumption) | (with_reducible refine Chg.drewN ?_ _) | (with_reducible refine Chg.drew ?_) | (with_reducible refine Chg.alloc ?_ _) | (with_reducible refine Chg.setCell ?_ (by first | (left; simp [DevH.foot]; done) | (right; simp; done) | (right; simp; omega)) _))))).mono ?_
    rintro e w9 ⟨rfl, hc9⟩
    have HC9 : Hid (Chg No w8 w9) := (by (repeat (first | (with_reducible exact Chg.refl _ _) | (with_reducible assumption) | (with_reducible refine Chg.drewN ?_ _) | (with_reducible refine Chg.drew ?_) | (with_reducible refine Chg.alloc ?_ _) | (with_reducible refine Chg.setCell ?_ (by first | (left; simp [DevH.foot]; done) | (right; simp; done) | (right; simp; omega)) _))) : Chg No w8 _).trans hc9
    have HY9 : Hid (Blk w9 gy tItem (itc x).toArray) := by
      have hb := Blk.new w8 tItem (itc x).toArray
      rw [hgy] at hb
      exact hb.chg hc9 (fun h => h)
    clear hc9 HMAY hgy
    go_wp2_with fail
    refine ((HIT _).out HC9.out).mono ?_
    rintro e w10 ⟨v10, rfl, ho10, hc10⟩
    obtain ⟨A10, c10, rfl, hn10, _⟩ := own_slice ho10
    have HC10 : Hid (Chg No w8 w10) := HC9.out.trans hc10
    have hy := HY9.out.chg hc10 (fun h => h)
    have hx := (HB0.out.chg HH8.out.chg (fun h => h)).chg HC10.out (fun h => h)
    have x0 := hx.cell 0
    have x1 := hx.cell 1
    have x2 := hx.cell 2
    have x3 := hx.cell 3
    have x4 := hx.cell 4
    have y0 := hy.cell 0
    have y1 := hy.cell 1
    have y2 := hy.cell 2
    have y3 := hy.cell 3
    have y4 := hy.cell 4
    simp [itc] at x0 x1 x2 x3 x4 y0 y1 y2 y3 y4
    have heq : ∀ W : World, (binOp .eql tItem (itemV x) (itemV x)).run Try.prog W = .ok (.bool true) W := fun W => by rw [run_eql_item]; simp
    have HFIN : Hid (Chg No w w10) := (HCH _).out (HH8.out.chg.trans HC10.out)
    clear hc10 ho10 hy hx HIT HY9 hn10
    go_wp2
    go_ret
    exact ⟨rfl, HFIN.out⟩
end Go.Proofs.Ytcmobcbecbajiaa
