/- ModelLoses, walked. -/
import Derived.Test.YtedkoplgfidjlaaDoorMdlV
namespace Go.Proofs.YtedkoplgfidjlaaDoor
open Go.RowKit
attribute [local go_sem ↓] Go.wp_at_zero Go.wp_at_succ
set_option linter.unusedSimpArgs false
set_option linter.unusedVariables false

theorem filt_take {α : Type} (l : List α) (p : α → Bool) (i : Nat) (x : α) (hx : l[i]? = some x) (hp : p x = true) : (l.filter p)[((l.take i).filter p).length]? = some x := by
  obtain ⟨h1, rfl⟩ := List.getElem?_eq_some_iff.1 hx
  have e : l = l.take i ++ l[i] :: l.drop (i + 1) := by rw [← List.drop_eq_getElem_cons h1, List.take_append_drop]
  have e2 : l.filter p = (l.take i).filter p ++ (l[i] :: l.drop (i + 1)).filter p := by rw [← List.filter_append, ← e]
  rw [e2, List.getElem?_append_right (Nat.le_refl _), Nat.sub_self, List.filter_cons_of_pos hp]
  rfl
section
variable {w w' : World}
set_option maxRecDepth 100000 in
set_option maxHeartbeats 8000000 in
theorem mloses_calls (hg : Glob w) {t : TypeId} {A : Option Addr} {n cA : Nat} {l : List StepP} (hl : l.length = n) (hr : Rd w t A (n * 15) (sts l)) (hso : ∀ s ∈ l, StepOk w s) (key : ByteArray) (now : Int) :
    Calls Tryd.prog 5 #[.slice A n cA, .string key, .int .i64 now] w fun e w' => e = .returned (.bool true) ∧ Chg No w w' := by
  have HG := Lib.hid hg
  have HA := Lib.hid (awake23_calls hg)
  have HRD := Lib.hid hr
  have HSO := Lib.hid hso
  have HLN := Lib.hid hl
  clear hg hr hso hl
  by_cases hn40 : 40 < n
  · have hi : (40 : Int) < (n : Int) := by omega
    go_enter Tryd.func5, Tryd.ntmps5
    go_wp2_with fail
    refine HA.out.mono ?_
    rintro e w0 ⟨rfl, hc0⟩
    have HC0 := Lib.hid hc0
    clear hc0
    go_wp2_with fail
    go_ret
    exact ⟨rfl, HC0.out⟩
  have hi : ¬ (40 : Int) < (n : Int) := by omega
  go_enter Tryd.func5, Tryd.ntmps5
  go_wp2_with fail
  refine HA.out.mono ?_
  rintro e w0 ⟨rfl, hc0⟩
  have HC0 := Lib.hid hc0
  have HN := Lib.hid (mnew_calls w0)
  clear hc0 HA
  go_wp2_with fail
  refine HN.out.mono ?_
  rintro e w1 ⟨m, M, rfl, hm, h1, h2, h3, hc⟩
  have HC1 := Lib.hid (HC0.out.trans hc)
  have HNE := Lib.hid (And.intro h3 (And.intro (Nat.le_trans HC0.out.size h1) (Nat.le_trans HC0.out.size h2)))
  have HM1 := Lib.hid hm
  clear hm h1 h2 h3 hc HN HC0
  go_wp2_with fail
  go_loopg [8] n (fun g vi wr => ∃ k : Nat, vi = .int .i64 k ∧ k ≤ n ∧ n - k = g ∧ Hid (∃ es, Mp wr m M es ∧ es.length ≤ 64 * k ∧ Chg No w wr))
  case atStart => exact ⟨0, rfl, by omega, by omega, [], HM1.out, by simp, HC1.out⟩
  case round =>
    obtain ⟨k, rfl, hk, hgg, HREL⟩ := hrel
    obtain ⟨es, hmp, hlen, hch⟩ := HREL.out
    by_cases hkn : k < n
    · obtain ⟨s, hs⟩ : ∃ s, l[k]? = some s := ⟨_, List.getElem?_eq_getElem (by rw [HLN.out]; exact hkn)⟩
      have hso := HSO.out s (List.mem_of_getElem? hs)
      obtain ⟨g, off, rfl, hcell⟩ := rd_at15 HRD.out hkn hs
      obtain ⟨c0, c1, c2, c3, c4, c5, c6, c7, c8, c9, c10, c11, c12, c13, c14⟩ := hcell wr hch
      have HCL := fun W => Lib.hid (fun hc : Chg No w W => hcell W hc)
      have HCW := Lib.hid hch
      have HMW := Lib.hid hmp
      have HLE := Lib.hid hlen
      have hi0 : (0 : Int) ≤ (k : Int) := by omega
      have hi1 : (k : Int) < (n : Int) := by omega
      have HBK := fun W => Lib.hid (fun hc : Chg No w W => backs_calls s (hso.chgNo hc))
      have HDO := fun W c A n cp => Lib.hid (fun (hw : Chg No w W) (hr : Chg No wr W) (hk : KeysAt W A n c.ks) (he : tmOk c.exp) => do_calls (HG.out.chgNo hw) (HMW.out.chgNo hr) HNE.out.1 c hk cp he s.now hso.2.2.2 s.v)
      have HKN := Lib.hid (And.intro hkn hn40)
      simp only [stpc] at HBK
      clear hcell hso hs hch hmp hlen HREL
      go_wp2_with fail
      go_region_held3 (fun W => W.cell? ⟨g, off + k * 15, none⟩ = some (.string s.c.what) ∧ W.cell? ⟨g, off + k * 15 + 1, none⟩ = some (.string s.c.verb) ∧ W.cell? ⟨g, off + k * 15 + 2, none⟩ = some (.slice s.A s.n s.cp) ∧ W.cell? ⟨g, off + k * 15 + 3, none⟩ = some (.string s.c.data) ∧ W.cell? ⟨g, off + k * 15 + 4, none⟩ = some (.int .u32 s.c.flags.toNat) ∧ W.cell? ⟨g, off + k * 15 + 5, none⟩ = some (.int .i64 s.c.exp) ∧ W.cell? ⟨g, off + k * 15 + 6, none⟩ = some (.int .u64 s.c.cas.toNat) ∧ W.cell? ⟨g, off + k * 15 + 7, none⟩ = some (.int .u64 s.c.by_.toNat) ∧ W.cell? ⟨g, off + k * 15 + 8, none⟩ = some (.bool s.c.wc) ∧ W.cell? ⟨g, off + k * 15 + 9, none⟩ = some (.bool s.c.wt) ∧ W.cell? ⟨g, off + k * 15 + 10, none⟩ = some (.bool s.c.dn) ∧ W.cell? ⟨g, off + k * 15 + 11, none⟩ = some (.bool s.c.qt) ∧ W.cell? ⟨g, off + k * 15 + 12, none⟩ = some (.int .i64 s.now) ∧ W.cell? ⟨g, off + k * 15 + 13, none⟩ = some (.int .u64 s.v.toNat) ∧ W.cell? ⟨g, off + k * 15 + 14, none⟩ = some (.string s.lose)) (first | go_keep)
        ((first
          | (go_at_call 16
             refine ((HBK _).out (HCW.out.trans (by (repeat (first | (with_reducible exact Chg.refl _ _) | (with_reducible assumption) | (with_reducible refine Chg.drewN ?_ _) | (with_reducible refine Chg.drew ?_) | (with_reducible refine Chg.alloc ?_ _) | (with_reducible refine Chg.setCell ?_ (by first | (left; simp [DevH.foot]; done) | (right; simp; done) | (right; simp; omega)) _)))))).mono ?_
             rintro e w4 ⟨⟨c4, A4, n4, cp4, rfl, hk4, he4⟩, hc4⟩
             have HR4 : Hid (Chg No wr w4) := Chg.trans (by (repeat (first | (with_reducible exact Chg.refl _ _) | (with_reducible assumption) | (with_reducible refine Chg.drewN ?_ _) | (with_reducible refine Chg.drew ?_) | (with_reducible refine Chg.alloc ?_ _) | (with_reducible refine Chg.setCell ?_ (by first | (left; simp [DevH.foot]; done) | (right; simp; done) | (right; simp; omega)) _)))) hc4
             have HC4 : Hid (Chg No w w4) := HCW.out.trans HR4.out
             have HK4 := Lib.hid (And.intro hk4 he4)
             obtain ⟨k0, k1, k2, k3, k4, k5, k6, k7, k8, k9, k10, k11, k12, k13, k14⟩ := (HCL w4).out HC4.out
             clear hk4 he4 hc4)
          | (go_at_call 9
             refine ((HDO _ _ _ _ _).out (HC4.out.trans (by (repeat (first | (with_reducible exact Chg.refl _ _) | (with_reducible assumption) | (with_reducible refine Chg.drewN ?_ _) | (with_reducible refine Chg.drew ?_) | (with_reducible refine Chg.alloc ?_ _) | (with_reducible refine Chg.setCell ?_ (by first | (left; simp [DevH.foot]; done) | (right; simp; done) | (right; simp; omega)) _))))) (HR4.out.trans (by (repeat (first | (with_reducible exact Chg.refl _ _) | (with_reducible assumption) | (with_reducible refine Chg.drewN ?_ _) | (with_reducible refine Chg.drew ?_) | (with_reducible refine Chg.alloc ?_ _) | (with_reducible refine Chg.setCell ?_ (by first | (left; simp [DevH.foot]; done) | (right; simp; done) | (right; simp; omega)) _))))) (HK4.out.1.chgNo (by (repeat (first | (with_reducible exact Chg.refl _ _) | (with_reducible assumption) | (with_reducible refine Chg.drewN ?_ _) | (with_reducible refine Chg.drew ?_) | (with_reducible refine Chg.alloc ?_ _) | (with_reducible refine Chg.setCell ?_ (by first | (left; simp [DevH.foot]; done) | (right; simp; done) | (right; simp; omega)) _))))) HK4.out.2).mono ?_
             rintro e w5 ⟨⟨u, rfl, hdr⟩, hc5⟩
             have HDR := Lib.hid hdr
             have HC5 : Hid (Chg No w w5) := (HC4.out.trans (by (repeat (first | (with_reducible exact Chg.refl _ _) | (with_reducible assumption) | (with_reducible refine Chg.drewN ?_ _) | (with_reducible refine Chg.drew ?_) | (with_reducible refine Chg.alloc ?_ _) | (with_reducible refine Chg.setCell ?_ (by first | (left; simp [DevH.foot]; done) | (right; simp; done) | (right; simp; omega)) _))) : Chg No w4 _)).then hc5 (fun i hi hT => by have := HNE.out.2.2; omega)
             obtain ⟨h0, h1, h2, h3, h4, h5, h6, h7, h8, h9, h10, h11, h12, h13, h14⟩ := (HCL w5).out HC5.out
             clear hdr hc5)))
      go_wp2_with fail
      go_roundg (n - (k + 1))
      case measure => have := HKN.out; omega
      case rel =>
        obtain ⟨es', hm5, hl5, _⟩ := HDR.out
        have hle := HLE.out
        exact ⟨k + 1, by go_num, by have := HKN.out; omega, rfl, es', hm5.chgNo (by (repeat (first | (with_reducible exact Chg.refl _ _) | (with_reducible assumption) | (with_reducible refine Chg.drewN ?_ _) | (with_reducible refine Chg.drew ?_) | (with_reducible refine Chg.alloc ?_ _) | (with_reducible refine Chg.setCell ?_ (by first | (left; simp [DevH.foot]; done) | (right; simp; done) | (right; simp; omega)) _)))), by omega, HC5.out.trans (by (repeat (first | (with_reducible exact Chg.refl _ _) | (with_reducible assumption) | (with_reducible refine Chg.drewN ?_ _) | (with_reducible refine Chg.drew ?_) | (with_reducible refine Chg.alloc ?_ _) | (with_reducible refine Chg.setCell ?_ (by first | (left; simp [DevH.foot]; done) | (right; simp; done) | (right; simp; omega)) _))))⟩
    · obtain rfl : k = n := by omega
      have HCW := Lib.hid hch
      have HMW := Lib.hid hmp
      have HLE : Hid (es.length ≤ 100000) := by show _ ≤ _; omega
      clear hch hmp hlen HREL
      go_wp2_with fail
      refine (mitems_calls HMW.out HLE.out now).mono ?_
      rintro e w2 ⟨v2, rfl, ho2, hc2⟩
      obtain ⟨Ax, cx, rfl, _, hrx⟩ := own_slice ho2
      have HRX := Lib.hid hrx
      have HC2 := Lib.hid (HCW.out.trans hc2)
      have HM2 := Lib.hid (HMW.out.chgNo hc2)
      clear ho2 hc2 hrx
      go_wp2_with fail
      refine (mlose_calls HM2.out HNE.out.1 key).mono ?_
      rintro e w3 ⟨rfl, hm3, hc3⟩
      have HRX3 := Lib.hid (HRX.out.chg hc3 (fun g cur fz hg hgM => by
        subst hgM
        exact HM2.out.map.ne_blk hg rfl))
      have HC3 : Hid (Chg No w w3) := HC2.out.then hc3 (fun i hi hT => by have := HNE.out.2.2; omega)
      have HM3 := Lib.hid hm3
      have HLE3 : Hid ((adel es key).length ≤ 100000) := Nat.le_trans (adel_len es key) HLE.out
      clear hc3 hm3
      go_wp2_with fail
      refine (mitems_calls HM3.out HLE3.out now).mono ?_
      rintro e w4 ⟨v4, rfl, ho4, hc4⟩
      obtain ⟨Ay, cy, rfl, _, hry⟩ := own_slice ho4
      have HRY := Lib.hid hry
      have HRX4 := Lib.hid (HRX3.out.chg hc4 (fun _ _ _ _ h => h))
      have HC4 := Lib.hid (HC3.out.trans hc4)
      have HGT := Lib.hid (mget_calls (HM3.out.chgNo hc4) key now)
      rw [mget_adel HMW.out.nodup key key, if_pos rfl] at HGT
      simp only [Option.getD_none, Option.isSome_none] at HGT
      rw [mitems_adel HMW.out.ok HMW.out.nodup key] at HRY ⊢
      obtain ⟨lx, hlx⟩ : ∃ lx, lx = mitems es now := ⟨_, rfl⟩
      have hl1 := mitems_len es now
      rw [← hlx] at HRX4 HRY hl1 ⊢
      obtain ⟨ly, hly⟩ : ∃ ly, ly = lx.filter (fun x => decide (x.key ≠ key)) := ⟨_, rfl⟩
      have hl2 : ly.length ≤ lx.length := by rw [hly]; exact List.length_filter_le _ _
      have HLY := Lib.hid hly
      rw [← hly] at HRY ⊢
      obtain ⟨nx, hnx⟩ : ∃ nx, nx = lx.length := ⟨_, rfl⟩
      obtain ⟨ny, hny⟩ : ∃ ny, ny = ly.length := ⟨_, rfl⟩
      rw [← hnx] at HRX4 hl1 hl2 ⊢
      rw [← hny] at HRY hl2 ⊢
      have HNX := Lib.hid hnx
      have HNY := Lib.hid hny
      have HXY : Hid (nx ≤ 100000 ∧ ny ≤ 100000) := by have := HLE.out; exact ⟨by omega, by omega⟩
      clear ho4 hc4 hry hlx hly hl1 hl2 hnx hny HRX HRX3 HM2 HM3 HMW HCW
      go_wp2_with fail
      refine HGT.out.mono ?_
      rintro e w5 ⟨rfl, hc5⟩
      have HC5 := Lib.hid hc5
      clear hc5 HGT
      go_wp2_with fail
      go_loopg [13, 14] nx (fun g v13 v14 wr => ∃ i j : Nat, v14 = .int .i64 i ∧ v13 = .int .i64 j ∧ i ≤ nx ∧ nx - i = g ∧ Hid (j = ((lx.take i).filter (fun x => decide (x.key ≠ key))).length ∧ Chg No w4 wr))
      case atStart => exact ⟨0, 0, rfl, rfl, by omega, by omega, by simp, HC5.out.trans (by (repeat (first | (with_reducible exact Chg.refl _ _) | (with_reducible assumption) | (with_reducible refine Chg.drewN ?_ _) | (with_reducible refine Chg.drew ?_) | (with_reducible refine Chg.alloc ?_ _) | (with_reducible refine Chg.setCell ?_ (by first | (left; simp [DevH.foot]; done) | (right; simp; done) | (right; simp; omega)) _))))⟩
      case round =>
        obtain ⟨i, j, rfl, rfl, hi, hgg, HS⟩ := hrel
        obtain ⟨hj, hch⟩ := HS.out
        have HCW := Lib.hid hch
        have hx9 : nx ≤ 100000 := HXY.out.1
        have hy9 : ny ≤ 100000 := HXY.out.2
        by_cases hin : i < nx
        · obtain ⟨x, hx⟩ : ∃ x, lx[i]? = some x := ⟨_, List.getElem?_eq_getElem (by rw [← HNX.out]; exact hin)⟩
          obtain ⟨gx, offx, rfl, hcx⟩ := rd_at6 HRX4.out hin hx
          obtain ⟨x0, x1, x2, x3, x4⟩ := hcx _ hch
          have hi0 : (0 : Int) ≤ (i : Int) := by omega
          have hi1 : (i : Int) < (nx : Int) := by omega
          have HIN := Lib.hid hin
          by_cases hk : x.key = key
          · have hkb : (x.key.toList == key.toList) = true := by rw [str_eq]; exact decide_eq_true hk
            have HJ : Hid (j = ((lx.take (i + 1)).filter (fun x => decide (x.key ≠ key))).length) := by
              show j = _
              rw [List.take_add_one, hx, List.filter_append, hj]
              simp [hk]
            clear hj hch hx hcx hk HS
            go_wp2_with fail
            go_roundg (nx - (i + 1))
            case measure => have := HIN.out; omega
            case rel => exact ⟨i + 1, j, by (have q1 := HIN.out; have q2 := HXY.out.1; go_num), rfl, by have := HIN.out; omega, rfl, HJ.out, HCW.out.trans (by (repeat (first | (with_reducible exact Chg.refl _ _) | (with_reducible assumption) | (with_reducible refine Chg.drewN ?_ _) | (with_reducible refine Chg.drew ?_) | (with_reducible refine Chg.alloc ?_ _) | (with_reducible refine Chg.setCell ?_ (by first | (left; simp [DevH.foot]; done) | (right; simp; done) | (right; simp; omega)) _))))⟩
          · have hkb : (x.key.toList == key.toList) = false := by rw [str_eq]; exact decide_eq_false hk
            have HJ : Hid (j + 1 = ((lx.take (i + 1)).filter (fun x => decide (x.key ≠ key))).length) := by
              show j + 1 = _
              rw [List.take_add_one, hx, List.filter_append, hj]
              simp [hk]
            have hyj : ly[j]? = some x := by
              rw [HLY.out, hj]
              exact filt_take lx _ i x hx (by simp [hk])
            have hjn : j < ny := by rw [HNY.out]; exact (List.getElem?_eq_some_iff.1 hyj).1
            obtain ⟨gy, offy, rfl, hcy⟩ := rd_at6 HRY.out hjn hyj
            obtain ⟨y0, y1, y2, y3, y4⟩ := hcy _ hch
            have hj0 : (0 : Int) ≤ (j : Int) := by omega
            have hj1 : (j : Int) < (ny : Int) := by omega
            have hj2 : ¬ (ny : Int) ≤ (j : Int) := by omega
            have HJN := Lib.hid hjn
            have heq : ∀ W : World, (binOp .neq tItem (itemV x) (itemV x)).run Tryd.prog W = .ok (.bool false) W := fun W => by rw [run_neq_item]; simp
            clear hj hch hx hcx hk HS hyj hcy
            go_wp2_with fail
            go_quiet (fail)
            go_wp2_with fail
            go_roundg (nx - (i + 1))
            case measure => have := HIN.out; omega
            case rel => exact ⟨i + 1, j + 1, by (have q1 := HIN.out; have q2 := HXY.out.1; go_num), by (have q1 := HJN.out; have q2 := HXY.out.2; go_num), by have := HIN.out; omega, rfl, HJ.out, HCW.out.trans (by (repeat (first | (with_reducible exact Chg.refl _ _) | (with_reducible assumption) | (with_reducible refine Chg.drewN ?_ _) | (with_reducible refine Chg.drew ?_) | (with_reducible refine Chg.alloc ?_ _) | (with_reducible refine Chg.setCell ?_ (by first | (left; simp [DevH.foot]; done) | (right; simp; done) | (right; simp; omega)) _))))⟩
        · obtain rfl : i = nx := by omega
          have e1 : j = ny := by
            rw [hj, HNY.out, HLY.out, HNX.out, List.take_length]
          subst e1
          clear hj hch HS
          go_wp2_with fail
          go_ret
          exact ⟨rfl, HC4.out.trans (HCW.out.trans (by (repeat (first | (with_reducible exact Chg.refl _ _) | (with_reducible assumption) | (with_reducible refine Chg.drewN ?_ _) | (with_reducible refine Chg.drew ?_) | (with_reducible refine Chg.alloc ?_ _) | (with_reducible refine Chg.setCell ?_ (by first | (left; simp [DevH.foot]; done) | (right; simp; done) | (right; simp; omega)) _)))))⟩
end
end Go.Proofs.YtedkoplgfidjlaaDoor
