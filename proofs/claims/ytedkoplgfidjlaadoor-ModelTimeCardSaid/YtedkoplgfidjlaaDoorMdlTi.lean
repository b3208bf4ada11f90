/- ModelTime, walked. -/
import Derived.Test.YtedkoplgfidjlaaDoorMdlV
namespace Go.Proofs.YtedkoplgfidjlaaDoor
open Go.RowKit
attribute [local go_sem ↓] Go.wp_at_zero Go.wp_at_succ
set_option linter.unusedSimpArgs false
set_option linter.unusedVariables false

theorem drop_at {α : Type} {l : List α} {i : Nat} {y : α} (h : l[i]? = some y) : l.drop i = y :: l.drop (i + 1) := by
  obtain ⟨h1, rfl⟩ := List.getElem?_eq_some_iff.1 h
  exact List.drop_eq_getElem_cons h1
theorem sub_ne {x y : Item} {r1 r2 : List Item} (h : (y :: r1).Sublist (x :: r2)) (hne : ¬ x = y) : (y :: r1).Sublist r2 := by
  cases h with
  | cons _ h => exact h
  | cons_cons => exact absurd rfl hne
section
variable {w w' : World}
set_option maxRecDepth 100000 in
set_option maxHeartbeats 8000000 in
theorem mtime_calls (hg : Glob w) {t : TypeId} {A : Option Addr} {n cA : Nat} {l : List StepP} (hl : l.length = n) (hr : Rd w t A (n * 15) (sts l)) (hso : ∀ s ∈ l, StepOk w s) (a b : Int) :
    Calls Tryd.prog 6 #[.slice A n cA, .int .i64 a, .int .i64 b] w fun e w' => e = .returned (.bool true) ∧ Chg No w w' := by
  have HG := Lib.hid hg
  have HA := Lib.hid (awake23_calls hg)
  have HRD := Lib.hid hr
  have HSO := Lib.hid hso
  have HLN := Lib.hid hl
  clear hg hr hso hl
  by_cases hn40 : 40 < n
  · have hi : (40 : Int) < (n : Int) := by omega
    go_enter Tryd.func6, Tryd.ntmps6
    go_wp2_with fail
    refine HA.out.mono ?_
    rintro e w0 ⟨rfl, hc0⟩
    have HC0 := Lib.hid hc0
    clear hc0
    go_wp2_with fail
    go_ret
    exact ⟨rfl, HC0.out⟩
  have hi : ¬ (40 : Int) < (n : Int) := by omega
  by_cases hab : b < a
  · go_enter Tryd.func6, Tryd.ntmps6
    go_wp2_with fail
    refine HA.out.mono ?_
    rintro e w0 ⟨rfl, hc0⟩
    have HC0 := Lib.hid hc0
    clear hc0
    go_wp2_with fail
    go_ret
    exact ⟨rfl, HC0.out⟩
  have HAB : Hid (a ≤ b) := by show _ ≤ _; omega
  go_enter Tryd.func6, Tryd.ntmps6
  go_wp2_with fail
  refine HA.out.mono ?_
  rintro e w0 ⟨rfl, hc0⟩
  have HC0 := Lib.hid hc0
  have HN := Lib.hid (mnew_calls w0)
  clear hc0 HA
  go_wp2_with fail
  refine HN.out.mono ?_
  rintro e w1 ⟨m, M, rfl, hm, h1, h2, h3, hc⟩
  have HC1 := Lib.hid (HC0.out.trans hc)
  have HNE := Lib.hid (And.intro h3 (And.intro (Nat.le_trans HC0.out.size h1) (Nat.le_trans HC0.out.size h2)))
  have HM1 := Lib.hid hm
  clear hm h1 h2 h3 hc HN HC0
  go_wp2_with fail
  go_loopg [8] n (fun g vi wr => ∃ k : Nat, vi = .int .i64 k ∧ k ≤ n ∧ n - k = g ∧ Hid (∃ es, Mp wr m M es ∧ es.length ≤ 64 * k ∧ Chg No w wr))
  case atStart => exact ⟨0, rfl, by omega, by omega, [], HM1.out, by simp, HC1.out⟩
  case round =>
    obtain ⟨k, rfl, hk, hgg, HREL⟩ := hrel
    obtain ⟨es, hmp, hlen, hch⟩ := HREL.out
    by_cases hkn : k < n
    · obtain ⟨s, hs⟩ : ∃ s, l[k]? = some s := ⟨_, List.getElem?_eq_getElem (by rw [HLN.out]; exact hkn)⟩
      have hso := HSO.out s (List.mem_of_getElem? hs)
      obtain ⟨g, off, rfl, hcell⟩ := rd_at15 HRD.out hkn hs
      obtain ⟨c0, c1, c2, c3, c4, c5, c6, c7, c8, c9, c10, c11, c12, c13, c14⟩ := hcell wr hch
      have HCL := fun W => Lib.hid (fun hc : Chg No w W => hcell W hc)
      have HCW := Lib.hid hch
      have HMW := Lib.hid hmp
      have HLE := Lib.hid hlen
      have hi0 : (0 : Int) ≤ (k : Int) := by omega
      have hi1 : (k : Int) < (n : Int) := by omega
      have HBK := fun W => Lib.hid (fun hc : Chg No w W => backs_calls s (hso.chgNo hc))
      have HDO := fun W c A n cp => Lib.hid (fun (hw : Chg No w W) (hr : Chg No wr W) (hk : KeysAt W A n c.ks) (he : tmOk c.exp) => do_calls (HG.out.chgNo hw) (HMW.out.chgNo hr) HNE.out.1 c hk cp he s.now hso.2.2.2 s.v)
      have HKN := Lib.hid (And.intro hkn hn40)
      simp only [stpc] at HBK
      clear hcell hso hs hch hmp hlen HREL
      go_wp2_with fail
      go_region_held3 (fun W => W.cell? ⟨g, off + k * 15, none⟩ = some (.string s.c.what) ∧ W.cell? ⟨g, off + k * 15 + 1, none⟩ = some (.string s.c.verb) ∧ W.cell? ⟨g, off + k * 15 + 2, none⟩ = some (.slice s.A s.n s.cp) ∧ W.cell? ⟨g, off + k * 15 + 3, none⟩ = some (.string s.c.data) ∧ W.cell? ⟨g, off + k * 15 + 4, none⟩ = some (.int .u32 s.c.flags.toNat) ∧ W.cell? ⟨g, off + k * 15 + 5, none⟩ = some (.int .i64 s.c.exp) ∧ W.cell? ⟨g, off + k * 15 + 6, none⟩ = some (.int .u64 s.c.cas.toNat) ∧ W.cell? ⟨g, off + k * 15 + 7, none⟩ = some (.int .u64 s.c.by_.toNat) ∧ W.cell? ⟨g, off + k * 15 + 8, none⟩ = some (.bool s.c.wc) ∧ W.cell? ⟨g, off + k * 15 + 9, none⟩ = some (.bool s.c.wt) ∧ W.cell? ⟨g, off + k * 15 + 10, none⟩ = some (.bool s.c.dn) ∧ W.cell? ⟨g, off + k * 15 + 11, none⟩ = some (.bool s.c.qt) ∧ W.cell? ⟨g, off + k * 15 + 12, none⟩ = some (.int .i64 s.now) ∧ W.cell? ⟨g, off + k * 15 + 13, none⟩ = some (.int .u64 s.v.toNat) ∧ W.cell? ⟨g, off + k * 15 + 14, none⟩ = some (.string s.lose)) (first | go_keep)
        ((first
          | (go_at_call 16
             refine ((HBK _).out (HCW.out.trans (by (repeat (first | (with_reducible exact Chg.refl _ _) | (with_reducible assumption) | (with_reducible refine Chg.drewN ?_ _) | (with_reducible refine Chg.drew ?_) | (with_reducible refine Chg.alloc ?_ _) | (with_reducible refine Chg.setCell ?_ (by first | (left; simp [DevH.foot]; done) | (right; simp; done) | (right; simp; omega)) _)))))).mono ?_
             rintro e w4 ⟨⟨c4, A4, n4, cp4, rfl, hk4, he4⟩, hc4⟩
             have HR4 : Hid (Chg No wr w4) := Chg.trans (by (repeat (first | (with_reducible exact Chg.refl _ _) | (with_reducible assumption) | (with_reducible refine Chg.drewN ?_ _) | (with_reducible refine Chg.drew ?_) | (with_reducible refine Chg.alloc ?_ _) | (with_reducible refine Chg.setCell ?_ (by first | (left; simp [DevH.foot]; done) | (right; simp; done) | (right; simp; omega)) _)))) hc4
             have HC4 : Hid (Chg No w w4) := HCW.out.trans HR4.out
             have HK4 := Lib.hid (And.intro hk4 he4)
             obtain ⟨k0, k1, k2, k3, k4, k5, k6, k7, k8, k9, k10, k11, k12, k13, k14⟩ := (HCL w4).out HC4.out
             clear hk4 he4 hc4)
          | (go_at_call 9
             refine ((HDO _ _ _ _ _).out (HC4.out.trans (by (repeat (first | (with_reducible exact Chg.refl _ _) | (with_reducible assumption) | (with_reducible refine Chg.drewN ?_ _) | (with_reducible refine Chg.drew ?_) | (with_reducible refine Chg.alloc ?_ _) | (with_reducible refine Chg.setCell ?_ (by first | (left; simp [DevH.foot]; done) | (right; simp; done) | (right; simp; omega)) _))))) (HR4.out.trans (by (repeat (first | (with_reducible exact Chg.refl _ _) | (with_reducible assumption) | (with_reducible refine Chg.drewN ?_ _) | (with_reducible refine Chg.drew ?_) | (with_reducible refine Chg.alloc ?_ _) | (with_reducible refine Chg.setCell ?_ (by first | (left; simp [DevH.foot]; done) | (right; simp; done) | (right; simp; omega)) _))))) (HK4.out.1.chgNo (by (repeat (first | (with_reducible exact Chg.refl _ _) | (with_reducible assumption) | (with_reducible refine Chg.drewN ?_ _) | (with_reducible refine Chg.drew ?_) | (with_reducible refine Chg.alloc ?_ _) | (with_reducible refine Chg.setCell ?_ (by first | (left; simp [DevH.foot]; done) | (right; simp; done) | (right; simp; omega)) _))))) HK4.out.2).mono ?_
             rintro e w5 ⟨⟨u, rfl, hdr⟩, hc5⟩
             have HDR := Lib.hid hdr
             have HC5 : Hid (Chg No w w5) := (HC4.out.trans (by (repeat (first | (with_reducible exact Chg.refl _ _) | (with_reducible assumption) | (with_reducible refine Chg.drewN ?_ _) | (with_reducible refine Chg.drew ?_) | (with_reducible refine Chg.alloc ?_ _) | (with_reducible refine Chg.setCell ?_ (by first | (left; simp [DevH.foot]; done) | (right; simp; done) | (right; simp; omega)) _))) : Chg No w4 _)).then hc5 (fun i hi hT => by have := HNE.out.2.2; omega)
             obtain ⟨h0, h1, h2, h3, h4, h5, h6, h7, h8, h9, h10, h11, h12, h13, h14⟩ := (HCL w5).out HC5.out
             clear hdr hc5)))
      go_wp2_with fail
      go_roundg (n - (k + 1))
      case measure => have := HKN.out; omega
      case rel =>
        obtain ⟨es', hm5, hl5, _⟩ := HDR.out
        have hle := HLE.out
        exact ⟨k + 1, by go_num, by have := HKN.out; omega, rfl, es', hm5.chgNo (by (repeat (first | (with_reducible exact Chg.refl _ _) | (with_reducible assumption) | (with_reducible refine Chg.drewN ?_ _) | (with_reducible refine Chg.drew ?_) | (with_reducible refine Chg.alloc ?_ _) | (with_reducible refine Chg.setCell ?_ (by first | (left; simp [DevH.foot]; done) | (right; simp; done) | (right; simp; omega)) _)))), by omega, HC5.out.trans (by (repeat (first | (with_reducible exact Chg.refl _ _) | (with_reducible assumption) | (with_reducible refine Chg.drewN ?_ _) | (with_reducible refine Chg.drew ?_) | (with_reducible refine Chg.alloc ?_ _) | (with_reducible refine Chg.setCell ?_ (by first | (left; simp [DevH.foot]; done) | (right; simp; done) | (right; simp; omega)) _))))⟩
    · obtain rfl : k = n := by omega
      have HCW := Lib.hid hch
      have HMW := Lib.hid hmp
      have HLE : Hid (es.length ≤ 100000) := by show _ ≤ _; omega
      clear hch hmp hlen HREL
      go_wp2_with fail
      refine (mitems_calls HMW.out HLE.out a).mono ?_
      rintro e w2 ⟨v2, rfl, ho2, hc2⟩
      obtain ⟨Ax, cx, rfl, _, hrx⟩ := own_slice ho2
      have HRX := Lib.hid hrx
      have HC2 := Lib.hid (HCW.out.trans hc2)
      have HM2 := Lib.hid (HMW.out.chgNo hc2)
      clear ho2 hc2 hrx
      go_wp2_with fail
      refine (mitems_calls HM2.out HLE.out b).mono ?_
      rintro e w3 ⟨v3, rfl, ho3, hc3⟩
      obtain ⟨Ay, cy, rfl, _, hry⟩ := own_slice ho3
      have HRY := Lib.hid hry
      have HRX3 := Lib.hid (HRX.out.chg hc3 (fun _ _ _ _ h => h))
      have HC3 := Lib.hid (HC2.out.trans hc3)
      have HSB := Lib.hid (mitems_later es (a := a) (b := b) HAB.out)
      obtain ⟨lx, hlx⟩ : ∃ lx, lx = mitems es a := ⟨_, rfl⟩
      obtain ⟨ly, hly⟩ : ∃ ly, ly = mitems es b := ⟨_, rfl⟩
      have hl1 := mitems_len es a
      have hl2 := mitems_len es b
      rw [← hlx] at HRX3 HSB hl1 ⊢
      rw [← hly] at HRY HSB hl2 ⊢
      obtain ⟨nx, hnx⟩ : ∃ nx, nx = lx.length := ⟨_, rfl⟩
      obtain ⟨ny, hny⟩ : ∃ ny, ny = ly.length := ⟨_, rfl⟩
      rw [← hnx] at HRX3 hl1 ⊢
      rw [← hny] at HRY hl2 ⊢
      have HNX := Lib.hid hnx
      have HNY := Lib.hid hny
      have hnx1 : nx ≤ 100000 := by have := HLE.out; omega
      have hny1 : ny ≤ 100000 := by have := HLE.out; omega
      clear ho3 hc3 hry hlx hly hl1 hl2 hnx hny HRX HM2 HMW HCW
      have HLE2 : Hid (ny ≤ nx) := by
        have := HSB.out.length_le
        rw [← HNX.out, ← HNY.out] at this
        exact this
      have HXY := Lib.hid (And.intro hnx1 hny1)
      go_wp2_with fail
      go_loopg [11, 12] ny (fun g v11 v12 wr => ∃ i j : Nat, v12 = .int .i64 i ∧ v11 = .int .i64 j ∧ i ≤ ny ∧ j ≤ nx ∧ ny - i = g ∧ Hid ((ly.drop i).Sublist (lx.drop j) ∧ Chg No w3 wr))
      case atStart => exact ⟨0, 0, rfl, rfl, by omega, by omega, by omega, HSB.out, Chg.refl _ _⟩
      case round =>
        obtain ⟨i, j, rfl, rfl, hi, hj, hgg, HS⟩ := hrel
        by_cases hin : i < ny
        · obtain ⟨y, hy⟩ : ∃ y, ly[i]? = some y := ⟨_, List.getElem?_eq_getElem (by rw [← HNY.out]; exact hin)⟩
          have hdy : ly.drop i = y :: ly.drop (i + 1) := drop_at hy
          obtain ⟨gy, offy, rfl, hcy⟩ := rd_at6 HRY.out hin hy
          have HCY := fun W => Lib.hid (hcy W)
          have HDY := Lib.hid hdy
          have HS0 := Lib.hid HS.out
          have hi0 : (0 : Int) ≤ (i : Int) := by omega
          have hi1 : (i : Int) < (ny : Int) := by omega
          have HIN := Lib.hid (And.intro hin hj)
          clear hy hdy hcy HS
          go_wp2_with fail
          go_loopg [11] (nx - j) (fun g v11 wr2 => ∃ j2 : Nat, v11 = .int .i64 j2 ∧ j2 ≤ nx ∧ nx - j2 = g ∧ Hid ((ly.drop i).Sublist (lx.drop j2) ∧ Chg No w3 wr2))
          case atStart => exact ⟨j, rfl, hj, rfl, HS0.out⟩
          case round =>
            obtain ⟨j2, rfl, hj2, hg2, HS2⟩ := hrel
            obtain ⟨hsub, hch2⟩ := HS2.out
            have HCW2 := Lib.hid hch2
            obtain ⟨y0, y1, y2, y3, y4⟩ := (HCY _).out hch2
            by_cases hjn : j2 < nx
            · obtain ⟨x, hx⟩ : ∃ x, lx[j2]? = some x := ⟨_, List.getElem?_eq_getElem (by rw [← HNX.out]; exact hjn)⟩
              have hdx : lx.drop j2 = x :: lx.drop (j2 + 1) := drop_at hx
              obtain ⟨gx, offx, rfl, hcx⟩ := rd_at6 HRX3.out hjn hx
              obtain ⟨x0, x1, x2, x3, x4⟩ := hcx _ hch2
              have hj0 : (0 : Int) ≤ (j2 : Int) := by omega
              have hj1 : (j2 : Int) < (nx : Int) := by omega
              have hjne : ((j2 : Int) == (nx : Int)) = false := by simp; omega
              have HJN := Lib.hid hjn
              by_cases hxy : x = y
              · subst hxy
                have heq : ∀ W : World, (binOp .neq tItem (itemV x) (itemV x)).run Tryd.prog W = .ok (.bool false) W := fun W => by rw [run_neq_item]; simp
                have HSUB : Hid ((ly.drop (i + 1)).Sublist (lx.drop j2)) := (List.sublist_cons_self _ _).trans (by rw [HDY.out] at hsub; exact hsub)
                clear hsub hch2 hx hdx hcx HS2
                go_wp2_with fail
                go_quiet (fail)
                go_wp2_with fail
                go_roundg (ny - (i + 1))
                case measure => have := HIN.out; omega
                case rel => exact ⟨i + 1, j2, by go_num, rfl, by have := HIN.out; omega, by have := HJN.out; omega, rfl, HSUB.out, HCW2.out.trans (by (repeat (first | (with_reducible exact Chg.refl _ _) | (with_reducible assumption) | (with_reducible refine Chg.drewN ?_ _) | (with_reducible refine Chg.drew ?_) | (with_reducible refine Chg.alloc ?_ _) | (with_reducible refine Chg.setCell ?_ (by first | (left; simp [DevH.foot]; done) | (right; simp; done) | (right; simp; omega)) _))))⟩
              · have heq : ∀ W : World, (binOp .neq tItem (itemV x) (itemV y)).run Tryd.prog W = .ok (.bool true) W := fun W => by rw [run_neq_item]; simp [hxy]
                have HSUB : Hid ((ly.drop i).Sublist (lx.drop (j2 + 1))) := by
                  rw [HDY.out, hdx] at hsub
                  show List.Sublist _ _
                  rw [HDY.out]
                  exact sub_ne hsub hxy
                clear hsub hch2 hx hdx hcx HS2 hxy
                go_wp2_with fail
                go_quiet (fail)
                go_wp2_with fail
                go_roundg (nx - (j2 + 1))
                case measure => have := HJN.out; omega
                case rel => exact ⟨j2 + 1, by go_num, by have := HJN.out; omega, rfl, HSUB.out, HCW2.out.trans (by (repeat (first | (with_reducible exact Chg.refl _ _) | (with_reducible assumption) | (with_reducible refine Chg.drewN ?_ _) | (with_reducible refine Chg.drew ?_) | (with_reducible refine Chg.alloc ?_ _) | (with_reducible refine Chg.setCell ?_ (by first | (left; simp [DevH.foot]; done) | (right; simp; done) | (right; simp; omega)) _))))⟩
            · exfalso
              rw [HDY.out, show lx.drop j2 = [] from List.drop_of_length_le (by rw [← HNX.out]; omega)] at hsub
              cases hsub
        · obtain rfl : i = ny := by omega
          have hle : (i : Int) ≤ (nx : Int) := by have := HLE2.out; omega
          have HCW := Lib.hid HS.out.2
          go_wp2_with fail
          go_ret
          exact ⟨rfl, HC3.out.trans (HCW.out.trans (by (repeat (first | (with_reducible exact Chg.refl _ _) | (with_reducible assumption) | (with_reducible refine Chg.drewN ?_ _) | (with_reducible refine Chg.drew ?_) | (with_reducible refine Chg.alloc ?_ _) | (with_reducible refine Chg.setCell ?_ (by first | (left; simp [DevH.foot]; done) | (right; simp; done) | (right; simp; omega)) _)))))⟩
end
end Go.Proofs.YtedkoplgfidjlaaDoor
