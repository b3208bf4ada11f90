/- RegionSwaps, walked. -/
import Derived.Test.YtcmobcbecbajiaaRegSe
namespace Go.Proofs.Ytcmobcbecbajiaa
open Go.RowKit
open Go.ChangeMaps (setBlock)
attribute [local go_sem ↓] Go.wp_at_zero Go.wp_at_succ
set_option linter.unusedSimpArgs false
set_option linter.unusedVariables false

theorem Hlog.items {w0 w : World} {h : DevH} {t : LgH} {G : Lg} {D : Dev} (H : Hlog w0 h t G D w) (h20 : G.regs.length < 20) :
    Calls Try.prog 32 #[.pointer (some ⟨t.L, 0, none⟩)] w fun e w' => ∃ v, e = .returned v ∧ w'.ownsRow w.heap.size tItem 5 v G.items.length (its G.items) ∧ Chg No w w' := by
  have hbl := byNum_len G.regs
  exact items_calls H.log h20 (byNum_lt _) (by omega)
theorem OneR.readIt {G : Lg} {D : Dev} {i p : Nat} (h : OneR G D i) (h0 : G.number ≠ 0) (hp : p < 4) : ∃ px, D.page p = .full px ∧ px.length = 384 ∧ D.readE (p : Int) = 0 ∧ D.read (p : Int) = px := by
  obtain ⟨S, _, _, _, hs⟩ := h.reg
  have hsl := (hs h0).1 p hp
  have e : D.rpg 0 0 p = D.page p := by simp [Dev.rpg]
  rw [e] at hsl
  have hh : D.has (p : Int) = true := by simp [Dev.has, h.pages]; omega
  have ho := h.live.on.off
  refine ⟨_, hsl, pad_length _ (rgPg_le _ _ _), ?_, ?_⟩
  · unfold Dev.readE; rw [hh, ho]; simp [hsl, Pg.err]
  · unfold Dev.read; rw [hh, ho]; simp [hsl, Pg.data]

set_option maxRecDepth 100000 in
set_option maxHeartbeats 8000000 in
theorem rswaps_calls (A : Option Addr) (n c : Nat) (l : List Item) (te : TypeId) (z y : Int) (w : World) (hn : l.length = n) (hr : Rd w te A (n * 5) (its l)) (hs : ∀ x ∈ l, x.key.size ≤ 140737488351232 ∧ x.val.size ≤ 140737488351232) (hnm : n ≤ 9223372036854775807) :
    Calls Try.prog 8 #[.slice A n c, .int .i64 z, .int .i64 y] w fun e w' => e = .returned (.bool true) ∧ Chg No w w' := by
  have HA := Lib.hid (awake9_calls w)
  have HN := fun W => Lib.hid (new_calls 4 W (by omega) (by omega))
  have HR := Lib.hid hr
  have HNL := Lib.hid hn
  have HS := Lib.hid hs
  clear hr hn hs
  by_cases h1 : n = 0
  · subst h1
    go_enter Try.func8, Try.ntmps8
    go_wp2_with fail
    refine HA.out.mono ?_
    rintro e w0 ⟨rfl, hc0⟩
    have HC0 := Lib.hid hc0
    clear hc0 HA HN
    go_wp2
    go_ret
    exact ⟨rfl, HC0.out⟩
  have n0 : ((n : Int) == 0) = false := by simp; omega
  have n0' : ¬ (n : Int) = 0 := by omega
  by_cases h2 : 20 < n
  · have b2 : (20 : Int) < (n : Int) := by omega
    clear h1
    go_enter Try.func8, Try.ntmps8
    go_wp2_with fail
    refine HA.out.mono ?_
    rintro e w0 ⟨rfl, hc0⟩
    have HC0 := Lib.hid hc0
    clear hc0 HA HN
    go_wp2
    go_ret
    exact ⟨rfl, HC0.out⟩
  have b2 : ¬ (20 : Int) < (n : Int) := by omega
  by_cases h3 : z < 0
  · clear h1 h2
    go_enter Try.func8, Try.ntmps8
    go_wp2_with fail
    refine HA.out.mono ?_
    rintro e w0 ⟨rfl, hc0⟩
    have HC0 := Lib.hid hc0
    clear hc0 HA HN
    go_wp2
    go_ret
    exact ⟨rfl, HC0.out⟩
  by_cases h4 : 3 < z
  · clear h1 h2
    go_enter Try.func8, Try.ntmps8
    go_wp2_with fail
    refine HA.out.mono ?_
    rintro e w0 ⟨rfl, hc0⟩
    have HC0 := Lib.hid hc0
    clear hc0 HA HN
    go_wp2
    go_ret
    exact ⟨rfl, HC0.out⟩
  by_cases h5 : y < 0
  · clear h1 h2
    go_enter Try.func8, Try.ntmps8
    go_wp2_with fail
    refine HA.out.mono ?_
    rintro e w0 ⟨rfl, hc0⟩
    have HC0 := Lib.hid hc0
    clear hc0 HA HN
    go_wp2
    go_ret
    exact ⟨rfl, HC0.out⟩
  by_cases h6 : 3 < y
  · clear h1 h2
    go_enter Try.func8, Try.ntmps8
    go_wp2_with fail
    refine HA.out.mono ?_
    rintro e w0 ⟨rfl, hc0⟩
    have HC0 := Lib.hid hc0
    clear hc0 HA HN
    go_wp2
    go_ret
    exact ⟨rfl, HC0.out⟩
  obtain ⟨p, rfl⟩ := Int.eq_ofNat_of_zero_le (show 0 ≤ z by omega)
  obtain ⟨s, rfl⟩ := Int.eq_ofNat_of_zero_le (show 0 ≤ y by omega)
  have hs4 : s < 4 := by omega
  have s3 : ¬ (3 : Int) < (s : Int) := by omega
  have hp4 : p < 4 := by omega
  have hn20 : n ≤ 20 := by omega
  clear h1 h2 h3 h4 h5 h6
  have p3 : ¬ (3 : Int) < (p : Int) := by omega
  go_enter Try.func8, Try.ntmps8
  go_wp2_with fail
  refine HA.out.mono ?_
  rintro e w0 ⟨rfl, hc0⟩
  have HC0 := Lib.hid hc0
  clear hc0 HA
  go_wp2_with fail
  refine (HN _).out.mono ?_
  rintro e w1 ⟨h, rfl, hd1, hc1, hf1⟩
  have HOP := Lib.hid (Hlog.opened (first := 0) (n := 1) hd1 hf1 hc1 (by omega) (by omega) (by show 0 + 4 * 1 ≤ (4 : Nat); omega) rfl)
  rw [show Dev.new (4 : Int).toNat = Dev.new 4 from rfl] at HOP
  have HF := Lib.hid hf1
  clear hd1 hc1 hf1 HN
  go_wp2_with fail
  refine HOP.out.mono ?_
  rintro e w2 ⟨t0, rfl, hh2, _, hc2⟩
  have HH2 := Lib.hid hh2
  have HO0 := Lib.hid oneR_new
  have HNF := Lib.hid (And.intro (nums_new 4 1) (fresh_new 4 1))
  obtain ⟨G0, hG0⟩ : ∃ G0, G0 = Lg.opened (Dev.new 4) 0 1 := ⟨_, rfl⟩
  rw [← hG0] at HH2 HO0 HNF
  clear hh2 hc2 HOP hG0
  go_wp2
  go_loopg [11] n (fun gk vi wr => ∃ i : Nat, gk = n - i ∧ i ≤ n ∧ vi = .int .i64 i ∧ Hid (∃ (t : LgH) (G : Lg) (D : Dev), t.L = t0.L ∧ Hlog w0 h t G D wr ∧ OneR G D i ∧ Nums G ∧ Fresh G))
  case atStart => exact ⟨0, rfl, Nat.zero_le _, rfl, t0, G0, Dev.new 4, rfl, HH2.out, HO0.out, HNF.out.1, HNF.out.2⟩
  case round =>
    obtain ⟨i, rfl, hi, rfl, t, G, D, hL, HH, HO, HNU, HFR⟩ := hrel
    by_cases hlt : i < n
    · obtain ⟨x, hx⟩ : ∃ x, l[i]? = some x := ⟨_, List.getElem?_eq_getElem (by rw [HNL.out]; exact hlt)⟩
      have hsx := HS.out x (List.mem_of_getElem? hx)
      obtain ⟨g, off, hA, hg, hc⟩ := (HR.out.chg (HC0.out.trans HH.chg) (fun _ _ _ _ h => h)).at_ (j := i * 5) (by omega)
      subst hA
      have c0 := hc (i * 5 + 0) _ (its_get l i 0 x hx (by omega))
      have c1 := hc (i * 5 + 1) _ (its_get l i 1 x hx (by omega))
      have c2 := hc (i * 5 + 2) _ (its_get l i 2 x hx (by omega))
      have c3 := hc (i * 5 + 3) _ (its_get l i 3 x hx (by omega))
      have c4 := hc (i * 5 + 4) _ (its_get l i 4 x hx (by omega))
      simp only [itc, List.getElem_cons_zero, List.getElem_cons_succ, ← Nat.add_assoc, Nat.add_zero] at c0 c1 c2 c3 c4
      have hii : (i : Int) < (n : Int) := by omega
      have HPUT := Lib.hid (HH.put x hsx.1 hsx.2)
      rw [hL] at HPUT
      have HO2 := Lib.hid (HO.put (by omega) x)
      have HF2 := Lib.hid (HO.live.fresh_put (by have := HO.num; omega) HNU HFR x)
      have HLL := Lib.hid hL
      obtain ⟨R, hR⟩ : ∃ R, R = G.put D x := ⟨_, rfl⟩
      rw [← hR] at HPUT HO2 HF2
      clear hsx hx hc HO hL hR HH HH2 HO0 HNU HFR HNF
      go_wp2_with fail
      refine HPUT.out.mono ?_
      rintro e w3 ⟨v3, t3, rfl, hp⟩
      have HH3 := Lib.hid hp.st
      have HL3 : Hid (t3.L = t0.L) := hp.L.trans HLL.out
      clear hp HPUT
      go_wp2
      go_roundg (n - (i + 1))
      case measure => omega
      case rel => exact ⟨i + 1, rfl, by omega, by go_num, t3, _, _, HL3.out, HH3.out, HO2.out, HF2.out.1, HF2.out.2⟩
    · obtain rfl : i = n := by omega
      have HSE := Lib.hid HH.shut
      have hsl := HO.sl (by omega)
      have hfs := HO.live.fresh_sl (by have := HO.num; omega) HNU HFR
      rw [hL, hsl.1] at HSE
      obtain ⟨G2, D2, lost, er, hRe⟩ : ∃ G2 D2 lost er, G.sl D = ⟨G2, D2, lost, er⟩ := ⟨_, _, _, _, rfl⟩
      rw [hRe] at HSE hsl hfs
      have HO2 : Hid (OneR G2 D2 (i + 1)) := hsl.2.1
      have HOP2 : Hid (G2.opn = []) := hsl.2.2
      have HF2 : Hid (Nums G2 ∧ Fresh G2) := hfs
      have HLL := Lib.hid hL
      clear hlt hsl hfs hRe HH2 HO0 HNU HFR HNF
      go_wp2_with fail
      refine HSE.out.mono ?_
      rintro e w3 ⟨v3, t3, rfl, hp⟩
      have HH3 : Hid (Hlog w0 h t3 G2 D2 w3) := hp.st
      have HL3 : Hid (t3.L = t0.L) := hp.L.trans HLL.out
      have HNU := fun W => Lib.hid (fun hc : Chg No w3 W => gnum_calls (HH3.out.log.chgNo hc))
      rw [HL3.out] at HNU
      obtain ⟨num, hnum⟩ : ∃ num, num = G2.number := ⟨_, rfl⟩
      rw [← hnum] at HNU
      have HNM := Lib.hid hnum
      clear hp HSE hnum
      by_cases h0 : num = 0
      · subst h0
        simp only [Int.natCast_zero] at HNU
        go_wp2_with fail
        refine ((HNU _).out (by (repeat (first | (with_reducible exact Chg.refl _ _) | (with_reducible assumption) | (with_reducible refine Chg.drewN ?_ _) | (with_reducible refine Chg.drew ?_) | (with_reducible refine Chg.alloc ?_ _) | (with_reducible refine Chg.setCell ?_ (by first | (left; simp [DevH.foot]; done) | (right; simp; done) | (right; simp; omega)) _))))).mono ?_
        rintro e w4 ⟨rfl, rfl⟩
        go_wp2
        go_ret
        exact ⟨rfl, HC0.out.trans HH3.out.chg⟩
      · have q0 : ((num : Int) == 0) = false := by simp; omega
        have q0' : ¬ (num : Int) = 0 := by omega
        go_wp2_with fail
        refine ((HNU _).out (by (repeat (first | (with_reducible exact Chg.refl _ _) | (with_reducible assumption) | (with_reducible refine Chg.drewN ?_ _) | (with_reducible refine Chg.drew ?_) | (with_reducible refine Chg.alloc ?_ _) | (with_reducible refine Chg.setCell ?_ (by first | (left; simp [DevH.foot]; done) | (right; simp; done) | (right; simp; omega)) _))))).mono ?_
        rintro e w4 ⟨rfl, rfl⟩
        have HG0 : Hid (G2.number ≠ 0) := by show _ ≠ _; rw [← HNM.out]; exact h0
        have h1r : G2.regs.length = 1 := by obtain ⟨S, hS, _⟩ := HO2.out.reg; rw [hS]; rfl
        have HIT := Lib.hid (HH3.out.items (by omega))
        rw [HL3.out] at HIT
        obtain ⟨px, hx, hxl, hr1, hr2⟩ := HO2.out.readIt HG0.out hp4
        obtain ⟨py, hy, hyl, hs1, hs2⟩ := HO2.out.readIt HG0.out hs4
        have HRDA : ∀ (W : World), Hid (DevAt W h D2 → Calls Try.prog 36 #[.pointer (some ⟨h.d, 0, none⟩), .int .i64 p] W fun e w' => ∃ v, e = .returned (.tuple #[v, .int .i64 0]) ∧ w'.ownsRow W.heap.size tU8 1 v 384 (bys px) ∧ DevN W.heap.size w' h D2 ∧ Chg h.foot W w') := fun W => fun hd => by
          have := read_calls (show DevN W.heap.size W h D2 from hd) (p : Int)
          rw [hr1, hr2, hxl] at this
          exact this
        have HRDB : ∀ (W : World), Hid (DevAt W h D2 → Calls Try.prog 36 #[.pointer (some ⟨h.d, 0, none⟩), .int .i64 s] W fun e w' => ∃ v, e = .returned (.tuple #[v, .int .i64 0]) ∧ w'.ownsRow W.heap.size tU8 1 v 384 (bys py) ∧ DevN W.heap.size w' h D2 ∧ Chg h.foot W w') := fun W => fun hd => by
          have := read_calls (show DevN W.heap.size W h D2 from hd) (s : Int)
          rw [hs1, hs2, hyl] at this
          exact this
        have HX := Lib.hid hx
        have HY := Lib.hid hy
        have HXL := Lib.hid hxl
        have HYL := Lib.hid hyl
        obtain ⟨m, hm⟩ : ∃ m, m = G2.items.length := ⟨_, rfl⟩
        rw [← hm] at HIT
        have HM := Lib.hid hm
        clear hr1 hr2 hs1 hs2 hx hy hxl hyl h1r hm
        go_wp2_with fail
        refine HIT.out.mono ?_
        rintro e w5 ⟨v5, rfl, ho5, hc5⟩
        obtain ⟨A5, c5, rfl, _, _⟩ := own_slice ho5
        have HH5 := Lib.hid (HH3.out.chgNo hc5)
        clear ho5 hc5 HIT
        go_wp2_with fail
        refine ((HRDA _).out HH5.out.dev).mono ?_
        rintro e w6 ⟨v6, rfl, ho6, hd6, hc6⟩
        have HH6 := Lib.hid (HH5.out.flash hd6.at_ hc6)
        obtain ⟨A6, c6, rfl, _, hr6⟩ := own_slice ho6
        have HR6 := Lib.hid hr6
        have HO6 := Lib.hid ho6
        clear ho6 hd6 hc6 hr6 HRDA
        go_wp2_with fail
        refine ((HRDB _).out HH6.out.dev).mono ?_
        rintro e w7 ⟨v7, rfl, ho7, hd7, hc7⟩
        have HH7 := Lib.hid (HH6.out.flash hd7.at_ hc7)
        obtain ⟨A7, c7, rfl, _, hr7⟩ := own_slice ho7
        have HR7 := Lib.hid hr7
        have HR6' : Hid (Rd w7 tU8 A6 384 (bys px)) := by
          have := HR6.out.chg hc7 (fun g cur fz hg => DevN.not_foot HH6.out.dev hg (by decide) (by decide))
          rwa [Nat.mul_one] at this
        have HWA := Lib.hid (write_calls HH7.out.dev (p : Int) A7 384 c7 py (by have := HR7.out; rwa [Nat.mul_one] at this) (by omega))
        clear ho7 hd7 hc7 hr7 HRDB HR6
        go_wp2_with fail
        refine HWA.out.mono ?_
        rintro e w8 ⟨rfl, hd8, hc8⟩
        have HH8 := Lib.hid (HH7.out.flash hd8 hc8)
        have HR8 := Lib.hid (HR6'.out.chg hc8 (fun g cur fz hg => DevN.not_foot HH7.out.dev hg (by decide) (by decide)))
        have HWB := Lib.hid (write_calls hd8 (s : Int) A6 384 c6 px HR8.out (by omega))
        clear hd8 hc8 HWA HR6'
        go_wp2_with fail
        refine HWB.out.mono ?_
        rintro e w9 ⟨rfl, hd9, hc9⟩
        have HH9 := Lib.hid (HH8.out.flash hd9 hc9)
        have HTW := Lib.hid (HO2.out.two hp4 hs4 HXL.out HYL.out)
        have HRE := Lib.hid (HH9.out.reopen HTW.out.2.1 HTW.out.1)
        clear hd9 hc9 HWB HR8
        go_wp2_with fail
        refine HRE.out.mono ?_
        rintro e w10 ⟨t10, rfl, hh10, hl10⟩
        have HH10 := Lib.hid hh10
        clear HRE
        by_cases hab : p = s
        · subst hab
          obtain rfl : px = py := by have := HX.out; rw [HY.out] at this; simpa using this.symm
          have HEQ := Lib.hid (HO2.out.rewritten (by omega) HG0.out hp4 HF2.out.1 HF2.out.2 HOP2.out HX.out)
          have HI10 := Lib.hid (hh10.items (by rw [opened_len1]; omega))
          rw [HEQ.out, ← HM.out] at HI10
          clear hh10 hl10
          go_wp2_with fail
          refine HI10.out.mono ?_
          rintro e w11 ⟨v11, rfl, ho11, hc11⟩
          have HC11 := Lib.hid hc11
          obtain ⟨A11, c11, rfl, _, _⟩ := own_slice ho11
          clear ho11 hc11 HI10
          go_wp2
          go_ret
          exact ⟨by simp, HC0.out.trans (HH10.out.chg.trans HC11.out)⟩
        · have hab1 : ((p : Int) == (s : Int)) = false := by simp; omega
          have hab2 : ¬ (p : Int) = (s : Int) := by omega
          have HFG := Lib.hid (HO2.out.swapped (by omega) HG0.out hp4 hs4 hab HX.out HY.out)
          have HN8 := fun W => Lib.hid (fun hc : Chg No w10 W => gnum_calls (hh10.log.chgNo hc))
          have HNG := fun W => Lib.hid (fun hc : Chg No w10 W => gnum_calls (hl10.chgNo hc))
          rw [HFG.out.2, ← HNM.out] at HN8
          rw [HL3.out, ← HNM.out] at HNG
          have HI8 := Lib.hid (hh10.items0 HFG.out.1)
          clear hh10 hl10 hab
          go_wp2_with fail
          refine HI8.out.mono ?_
          rintro e w11 ⟨A11, c11, rfl, hc11⟩
          have HC11 := Lib.hid hc11
          clear hc11
          go_wp2_with fail
          refine ((HN8 _).out HC11.out).mono ?_
          rintro e w12 ⟨rfl, rfl⟩
          go_wp2_with fail
          refine ((HNG _).out HC11.out).mono ?_
          rintro e w13 ⟨rfl, rfl⟩
          go_wp2
          go_ret
          exact ⟨rfl, HC0.out.trans (HH10.out.chg.trans HC11.out)⟩
end Go.Proofs.Ytcmobcbecbajiaa
