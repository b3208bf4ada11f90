/- ModelItems, walked. -/
import Derived.Test.YtedkoplgfidjlaaDoorMdlV
namespace Go.Proofs.YtedkoplgfidjlaaDoor
open Go.RowKit
attribute [local go_sem ↓] Go.wp_at_zero Go.wp_at_succ
set_option linter.unusedSimpArgs false
set_option linter.unusedVariables false

theorem items_len {w : World} {m M : Nat} {es : Its} (h : Mp w m M es) (hn : es.length ≤ 100000) (now : Int) {k : Nat} (hk : (mitems es now).length = k) :
    Calls Tryd.prog 10 #[.pointer (some ⟨m, 0, none⟩), .int .i64 now] w fun e w' => (∃ A c, e = .returned (.slice A k c)) ∧ Chg No w w' := by
  subst hk
  refine (mitems_calls h hn now).mono ?_
  rintro e w' ⟨v, rfl, ho, hc⟩
  obtain ⟨A, c, rfl, _, _⟩ := own_slice ho
  exact ⟨⟨A, c, rfl⟩, hc⟩
theorem adels_len (es : Its) (l : List Item) : (adels es l).length ≤ es.length := by
  induction l generalizing es with
  | nil => exact Nat.le_refl _
  | cons x r ih => exact Nat.le_trans (ih _) (adel_len es x.key)
section
variable {w w' : World}
set_option maxRecDepth 100000 in
set_option maxHeartbeats 8000000 in
theorem mitemslaw_calls (hg : Glob w) {t : TypeId} {A : Option Addr} {n cA : Nat} {l : List StepP} (hl : l.length = n) (hr : Rd w t A (n * 15) (sts l)) (hso : ∀ s ∈ l, StepOk w s) (now : Int) :
    Calls Tryd.prog 4 #[.slice A n cA, .int .i64 now] w fun e w' => e = .returned (.bool true) ∧ Chg No w w' := by
  have HG := Lib.hid hg
  have HA := Lib.hid (awake23_calls hg)
  have HRD := Lib.hid hr
  have HSO := Lib.hid hso
  have HLN := Lib.hid hl
  clear hg hr hso hl
  by_cases hn40 : 40 < n
  · have hi : (40 : Int) < (n : Int) := by omega
    go_enter Tryd.func4, Tryd.ntmps4
    go_wp2_with fail
    refine HA.out.mono ?_
    rintro e w0 ⟨rfl, hc0⟩
    have HC0 := Lib.hid hc0
    clear hc0
    go_wp2_with fail
    go_ret
    exact ⟨rfl, HC0.out⟩
  have hi : ¬ (40 : Int) < (n : Int) := by omega
  go_enter Tryd.func4, Tryd.ntmps4
  go_wp2_with fail
  refine HA.out.mono ?_
  rintro e w0 ⟨rfl, hc0⟩
  have HC0 := Lib.hid hc0
  have HN := Lib.hid (mnew_calls w0)
  clear hc0 HA
  go_wp2_with fail
  refine HN.out.mono ?_
  rintro e w1 ⟨m, M, rfl, hm, h1, h2, h3, hc⟩
  have HC1 := Lib.hid (HC0.out.trans hc)
  have HNE := Lib.hid (And.intro h3 (And.intro (Nat.le_trans HC0.out.size h1) (Nat.le_trans HC0.out.size h2)))
  have HM1 := Lib.hid hm
  clear hm h1 h2 h3 hc HN HC0
  go_wp2_with fail
  go_loopg [6] n (fun g vi wr => ∃ k : Nat, vi = .int .i64 k ∧ k ≤ n ∧ n - k = g ∧ Hid (∃ es, Mp wr m M es ∧ es.length ≤ 64 * k ∧ Chg No w wr))
  case atStart => exact ⟨0, rfl, by omega, by omega, [], HM1.out, by simp, HC1.out⟩
  case round =>
    obtain ⟨k, rfl, hk, hgg, HREL⟩ := hrel
    obtain ⟨es, hmp, hlen, hch⟩ := HREL.out
    by_cases hkn : k < n
    · obtain ⟨s, hs⟩ : ∃ s, l[k]? = some s := ⟨_, List.getElem?_eq_getElem (by rw [HLN.out]; exact hkn)⟩
      have hso := HSO.out s (List.mem_of_getElem? hs)
      obtain ⟨g, off, rfl, hcell⟩ := rd_at15 HRD.out hkn hs
      obtain ⟨c0, c1, c2, c3, c4, c5, c6, c7, c8, c9, c10, c11, c12, c13, c14⟩ := hcell wr hch
      have HCL := fun W => Lib.hid (fun hc : Chg No w W => hcell W hc)
      have HCW := Lib.hid hch
      have HMW := Lib.hid hmp
      have HLE := Lib.hid hlen
      have hi0 : (0 : Int) ≤ (k : Int) := by omega
      have hi1 : (k : Int) < (n : Int) := by omega
      have HSH := fun W => Lib.hid (fun hc : Chg No w W => short_calls s.c (hso.chgNo hc).1 s.cp hso.2.1)
      have HEX := Lib.hid hso.2.2.1
      have HDO := fun W c A n cp => Lib.hid (fun (hw : Chg No w W) (hr : Chg No wr W) (hk : KeysAt W A n c.ks) (he : tmOk c.exp) => do_calls (HG.out.chgNo hw) (HMW.out.chgNo hr) HNE.out.1 c hk cp he s.now hso.2.2.2 s.v)
      have HKN := Lib.hid (And.intro hkn hn40)
      simp only [cmdc] at HSH
      clear hcell hso hs hch hmp hlen HREL
      go_wp2_with fail
      go_region_held3 (fun W => W.cell? ⟨g, off + k * 15, none⟩ = some (.string s.c.what) ∧ W.cell? ⟨g, off + k * 15 + 1, none⟩ = some (.string s.c.verb) ∧ W.cell? ⟨g, off + k * 15 + 2, none⟩ = some (.slice s.A s.n s.cp) ∧ W.cell? ⟨g, off + k * 15 + 3, none⟩ = some (.string s.c.data) ∧ W.cell? ⟨g, off + k * 15 + 4, none⟩ = some (.int .u32 s.c.flags.toNat) ∧ W.cell? ⟨g, off + k * 15 + 5, none⟩ = some (.int .i64 s.c.exp) ∧ W.cell? ⟨g, off + k * 15 + 6, none⟩ = some (.int .u64 s.c.cas.toNat) ∧ W.cell? ⟨g, off + k * 15 + 7, none⟩ = some (.int .u64 s.c.by_.toNat) ∧ W.cell? ⟨g, off + k * 15 + 8, none⟩ = some (.bool s.c.wc) ∧ W.cell? ⟨g, off + k * 15 + 9, none⟩ = some (.bool s.c.wt) ∧ W.cell? ⟨g, off + k * 15 + 10, none⟩ = some (.bool s.c.dn) ∧ W.cell? ⟨g, off + k * 15 + 11, none⟩ = some (.bool s.c.qt) ∧ W.cell? ⟨g, off + k * 15 + 12, none⟩ = some (.int .i64 s.now) ∧ W.cell? ⟨g, off + k * 15 + 13, none⟩ = some (.int .u64 s.v.toNat) ∧ W.cell? ⟨g, off + k * 15 + 14, none⟩ = some (.string s.lose)) (first | go_keep)
        ((first
          | (go_at_call 12
             refine ((HSH _).out (HCW.out.trans (by (repeat (first | (with_reducible exact Chg.refl _ _) | (with_reducible assumption) | (with_reducible refine Chg.drewN ?_ _) | (with_reducible refine Chg.drew ?_) | (with_reducible refine Chg.alloc ?_ _) | (with_reducible refine Chg.setCell ?_ (by first | (left; simp [DevH.foot]; done) | (right; simp; done) | (right; simp; omega)) _)))))).mono ?_
             rintro e w4 ⟨⟨c4, A4, n4, rfl, hk4, he4, _⟩, hc4⟩
             have HR4 : Hid (Chg No wr w4) := Chg.trans (by (repeat (first | (with_reducible exact Chg.refl _ _) | (with_reducible assumption) | (with_reducible refine Chg.drewN ?_ _) | (with_reducible refine Chg.drew ?_) | (with_reducible refine Chg.alloc ?_ _) | (with_reducible refine Chg.setCell ?_ (by first | (left; simp [DevH.foot]; done) | (right; simp; done) | (right; simp; omega)) _)))) hc4
             have HC4 : Hid (Chg No w w4) := HCW.out.trans HR4.out
             have HBK := fun W => Lib.hid (fun hc : Chg No w4 W => bshort_calls c4 (hk4.chgNo hc) (by rw [he4]; exact HEX.out) s.cp)
             obtain ⟨k0, k1, k2, k3, k4, k5, k6, k7, k8, k9, k10, k11, k12, k13, k14⟩ := (HCL w4).out HC4.out
             clear hk4 he4 hc4)
          | (go_at_call 11
             refine ((HBK _).out (by (repeat (first | (with_reducible exact Chg.refl _ _) | (with_reducible assumption) | (with_reducible refine Chg.drewN ?_ _) | (with_reducible refine Chg.drew ?_) | (with_reducible refine Chg.alloc ?_ _) | (with_reducible refine Chg.setCell ?_ (by first | (left; simp [DevH.foot]; done) | (right; simp; done) | (right; simp; omega)) _))))).mono ?_
             rintro e w6 ⟨⟨c6, A6, n6, cp6, rfl, hk6, he6⟩, hc6⟩
             have HR6 : Hid (Chg No wr w6) := HR4.out.trans (Chg.trans (by (repeat (first | (with_reducible exact Chg.refl _ _) | (with_reducible assumption) | (with_reducible refine Chg.drewN ?_ _) | (with_reducible refine Chg.drew ?_) | (with_reducible refine Chg.alloc ?_ _) | (with_reducible refine Chg.setCell ?_ (by first | (left; simp [DevH.foot]; done) | (right; simp; done) | (right; simp; omega)) _)))) hc6)
             have HC6 : Hid (Chg No w w6) := HCW.out.trans HR6.out
             have HK6 := Lib.hid (And.intro hk6 he6)
             obtain ⟨j0, j1, j2, j3, j4, j5, j6, j7, j8, j9, j10, j11, j12, j13, j14⟩ := (HCL w6).out HC6.out
             clear hk6 he6 hc6)
          | (go_at_call 9
             refine ((HDO _ _ _ _ _).out (HC6.out.trans (by (repeat (first | (with_reducible exact Chg.refl _ _) | (with_reducible assumption) | (with_reducible refine Chg.drewN ?_ _) | (with_reducible refine Chg.drew ?_) | (with_reducible refine Chg.alloc ?_ _) | (with_reducible refine Chg.setCell ?_ (by first | (left; simp [DevH.foot]; done) | (right; simp; done) | (right; simp; omega)) _))))) (HR6.out.trans (by (repeat (first | (with_reducible exact Chg.refl _ _) | (with_reducible assumption) | (with_reducible refine Chg.drewN ?_ _) | (with_reducible refine Chg.drew ?_) | (with_reducible refine Chg.alloc ?_ _) | (with_reducible refine Chg.setCell ?_ (by first | (left; simp [DevH.foot]; done) | (right; simp; done) | (right; simp; omega)) _))))) (HK6.out.1.chgNo (by (repeat (first | (with_reducible exact Chg.refl _ _) | (with_reducible assumption) | (with_reducible refine Chg.drewN ?_ _) | (with_reducible refine Chg.drew ?_) | (with_reducible refine Chg.alloc ?_ _) | (with_reducible refine Chg.setCell ?_ (by first | (left; simp [DevH.foot]; done) | (right; simp; done) | (right; simp; omega)) _))))) HK6.out.2).mono ?_
             rintro e w5 ⟨⟨u, rfl, hdr⟩, hc5⟩
             have HDR := Lib.hid hdr
             have HC5 : Hid (Chg No w w5) := (HC6.out.trans (by (repeat (first | (with_reducible exact Chg.refl _ _) | (with_reducible assumption) | (with_reducible refine Chg.drewN ?_ _) | (with_reducible refine Chg.drew ?_) | (with_reducible refine Chg.alloc ?_ _) | (with_reducible refine Chg.setCell ?_ (by first | (left; simp [DevH.foot]; done) | (right; simp; done) | (right; simp; omega)) _))) : Chg No w6 _)).then hc5 (fun i hi hT => by have := HNE.out.2.2; omega)
             obtain ⟨h0, h1, h2, h3, h4, h5, h6, h7, h8, h9, h10, h11, h12, h13, h14⟩ := (HCL w5).out HC5.out
             clear hdr hc5)))
      go_wp2_with fail
      go_roundg (n - (k + 1))
      case measure => have := HKN.out; omega
      case rel =>
        obtain ⟨es', hm5, hl5, _⟩ := HDR.out
        have hle := HLE.out
        exact ⟨k + 1, by go_num, by have := HKN.out; omega, rfl, es', hm5.chgNo (by (repeat (first | (with_reducible exact Chg.refl _ _) | (with_reducible assumption) | (with_reducible refine Chg.drewN ?_ _) | (with_reducible refine Chg.drew ?_) | (with_reducible refine Chg.alloc ?_ _) | (with_reducible refine Chg.setCell ?_ (by first | (left; simp [DevH.foot]; done) | (right; simp; done) | (right; simp; omega)) _)))), by omega, HC5.out.trans (by (repeat (first | (with_reducible exact Chg.refl _ _) | (with_reducible assumption) | (with_reducible refine Chg.drewN ?_ _) | (with_reducible refine Chg.drew ?_) | (with_reducible refine Chg.alloc ?_ _) | (with_reducible refine Chg.setCell ?_ (by first | (left; simp [DevH.foot]; done) | (right; simp; done) | (right; simp; omega)) _))))⟩
    · obtain rfl : k = n := by omega
      have HCW := Lib.hid hch
      have HMW := Lib.hid hmp
      have HLE : Hid (es.length ≤ 100000) := by show _ ≤ _; omega
      clear hch hmp hlen HREL
      go_wp2_with fail
      refine (mcopy_calls HMW.out).mono ?_
      rintro e w2 ⟨⟨m2, M2, rfl, hm2, h1, h2, h3⟩, hc2⟩
      have HC2 := Lib.hid (HCW.out.trans hc2)
      have HM2 := Lib.hid (HMW.out.chgNo hc2)
      have HX2 := Lib.hid hm2
      have HML : Hid (m < m2 ∧ M < M2 ∧ m < M2 ∧ w.heap.size ≤ M2) := by
        have q1 := HMW.out.box.lt
        have q2 := HMW.out.map.lt
        have q3 := HCW.out.size
        exact ⟨by omega, by omega, by omega, by omega⟩
      have HN2 := Lib.hid h3
      clear hm2 h1 h2 h3 hc2
      go_wp2_with fail
      refine (mitems_calls HM2.out HLE.out now).mono ?_
      rintro e w3 ⟨v3, rfl, ho3, hc3⟩
      obtain ⟨Ax, cx, rfl, _, hrx⟩ := own_slice ho3
      have HRX := Lib.hid hrx
      have HC3 := Lib.hid (HC2.out.trans hc3)
      have HM3 := Lib.hid (HM2.out.chgNo hc3)
      have HX3 := Lib.hid (HX2.out.chgNo hc3)
      obtain ⟨lx, hlx⟩ : ∃ lx, lx = mitems es now := ⟨_, rfl⟩
      have hl1 := mitems_len es now
      rw [← hlx] at HRX hl1 ⊢
      obtain ⟨nx, hnx⟩ : ∃ nx, nx = lx.length := ⟨_, rfl⟩
      rw [← hnx] at HRX hl1 ⊢
      have HLX := Lib.hid hlx
      have HNX := Lib.hid hnx
      have hx9 : nx ≤ 100000 := by have := HLE.out; omega
      clear ho3 hc3 hrx hlx hnx hl1 HM2 HX2 HMW HCW
      go_wp2_with fail
      go_loopg [9] nx (fun g v9 wr => ∃ i : Nat, v9 = .int .i64 i ∧ i ≤ nx ∧ nx - i = g ∧ Hid (Mp wr m2 M2 (adels es (lx.take i)) ∧ Chg (fun k => k = M2) w3 wr))
      case atStart => exact ⟨0, rfl, by omega, by omega, HX3.out, Chg.refl _ _⟩
      case round =>
        obtain ⟨i, rfl, hi, hgg, HS⟩ := hrel
        obtain ⟨hmx, hch⟩ := HS.out
        have HCH := Lib.hid hch
        have HMX := Lib.hid hmx
        have hmr := HM3.out.chg hch (by have := HML.out; omega) (by have := HML.out; omega)
        have HMR := Lib.hid hmr
        have HRR := Lib.hid (HRX.out.chg hch (fun g cur fz hg hgM => by
          subst hgM
          exact HX3.out.map.ne_blk hg rfl))
        by_cases hin : i < nx
        · obtain ⟨x, hx⟩ : ∃ x, lx[i]? = some x := ⟨_, List.getElem?_eq_getElem (by rw [← HNX.out]; exact hin)⟩
          have hmg : mget es x.key now = some x := mitems_get HMR.out.ok (i := i) (by rw [← HLX.out]; exact hx)
          obtain ⟨gx, offx, rfl, hcx⟩ := rd_at6 HRR.out hin hx
          have HCX := fun W => Lib.hid (hcx W)
          obtain ⟨x0, x1, x2, x3, x4⟩ := hcx _ (Chg.refl _ _)
          have hi0 : (0 : Int) ≤ (i : Int) := by omega
          have hi1 : (i : Int) < (nx : Int) := by omega
          have HIN := Lib.hid hin
          have HGT := Lib.hid (mget_calls hmr x.key now)
          rw [hmg] at HGT
          simp only [Option.getD_some, Option.isSome_some] at HGT
          have HAD : Hid (adel (adels es (lx.take i)) x.key = adels es (lx.take (i + 1))) := by
            show _ = _
            rw [List.take_add_one, hx]
            exact (adels_snoc _ _ _).symm
          have heq : ∀ W : World, (binOp .neq tItem (itemV x) (itemV x)).run Tryd.prog W = .ok (.bool false) W := fun W => by rw [run_neq_item]; simp
          have HRI : Hid (∀ p y, i = p + 1 → lx[p]? = some y → ¬ x.key.data.toList ≤ y.key.data.toList) := fun p y hp hy hle => by
            subst hp
            have := rise_at (now := now) HMR.out.ok HMR.out.nodup (i := p) (by rw [← HLX.out]; exact hy) (by rw [← HLX.out]; exact hx)
            exact List.not_lt.2 hle this
          have HLOS := fun W => Lib.hid (fun hc : Chg No wr W => mlose_calls (HMX.out.chgNo hc) HN2.out x.key)
          have HXL := Lib.hid hx
          clear hmr hmx hch hx hcx hmg HS
          go_wp2_with fail
          refine HGT.out.mono ?_
          rintro e w5 ⟨rfl, hc5⟩
          have HC5 := Lib.hid hc5
          obtain ⟨u0, u1, u2, u3, u4⟩ := (HCX (w5.alloc (.cells #[.string x.key, .string x.val, .int .u32 x.flags.toNat, .int .i64 x.exp.toInt, .int .u64 x.ver.toNat] tItem))).out (hc5.alloc _)
          clear hc5 HGT x0 x1 x2 x3 x4
          rcases Nat.eq_zero_or_pos i with hz | hz
          · have hi2 : decide ((0 : Int) < (i : Int)) = false := decide_eq_false (by omega)
            have hi2n : decide (0 < i) = false := decide_eq_false (by omega)
            clear hz
            go_wp2_with fail
            go_quiet (fail)
            go_wp2_with fail
            refine ((HLOS _).out (HC5.out.trans (by (repeat (first | (with_reducible exact Chg.refl _ _) | (with_reducible assumption) | (with_reducible refine Chg.drewN ?_ _) | (with_reducible refine Chg.drew ?_) | (with_reducible refine Chg.alloc ?_ _) | (with_reducible refine Chg.setCell ?_ (by first | (left; simp [DevH.foot]; done) | (right; simp; done) | (right; simp; omega)) _)))))).mono ?_
            rintro e w7 ⟨rfl, hm7, hc7⟩
            have HM7 : Hid (Mp w7 m2 M2 (adels es (lx.take (i + 1)))) := by show Mp _ _ _ _; rw [← HAD.out]; exact hm7
            have HC7 : Hid (Chg (fun k => k = M2) w3 w7) := Chg.trans (Chg.trans HCH.out (Chg.mono (Chg.trans HC5.out (by (repeat (first | (with_reducible exact Chg.refl _ _) | (with_reducible assumption) | (with_reducible refine Chg.drewN ?_ _) | (with_reducible refine Chg.drew ?_) | (with_reducible refine Chg.alloc ?_ _) | (with_reducible refine Chg.setCell ?_ (by first | (left; simp [DevH.foot]; done) | (right; simp; done) | (right; simp; omega)) _))))) (fun _ _ h => h.elim))) hc7
            clear hm7 hc7 HLOS
            go_wp2_with fail
            go_roundg (nx - (i + 1))
            case measure => have := HIN.out; omega
            case rel => exact ⟨i + 1, by go_num, by have := HIN.out; omega, rfl, HM7.out.chgNo (by (repeat (first | (with_reducible exact Chg.refl _ _) | (with_reducible assumption) | (with_reducible refine Chg.drewN ?_ _) | (with_reducible refine Chg.drew ?_) | (with_reducible refine Chg.alloc ?_ _) | (with_reducible refine Chg.setCell ?_ (by first | (left; simp [DevH.foot]; done) | (right; simp; done) | (right; simp; omega)) _)))), HC7.out.trans (Chg.mono (S := fun k => k = M2) (T := No) (by (repeat (first | (with_reducible exact Chg.refl _ _) | (with_reducible assumption) | (with_reducible refine Chg.drewN ?_ _) | (with_reducible refine Chg.drew ?_) | (with_reducible refine Chg.alloc ?_ _) | (with_reducible refine Chg.setCell ?_ (by first | (left; simp [DevH.foot]; done) | (right; simp; done) | (right; simp; omega)) _)))) (fun _ _ h => h.elim))⟩
          · obtain ⟨p, hp⟩ : ∃ p, p = i - 1 := ⟨_, rfl⟩
            have hi2 : decide ((0 : Int) < (i : Int)) = true := decide_eq_true (by omega)
            have hi2n : decide (0 < i) = true := decide_eq_true hz
            have hi3 : (0 : Int) < (i : Int) := by omega
            have hpn : p < nx := by omega
            obtain ⟨y, hy⟩ : ∃ y, lx[p]? = some y := ⟨_, List.getElem?_eq_getElem (by rw [← HNX.out]; exact hpn)⟩
            obtain ⟨gy, offy, hey, hcy⟩ := rd_at6 HRR.out hpn hy
            injection hey with hey
            injection hey with hey1 hey2
            subst hey1; subst hey2
            obtain ⟨t0, t1, t2, t3, t4⟩ := hcy (w5.alloc (.cells #[.string x.key, .string x.val, .int .u32 x.flags.toNat, .int .i64 x.exp.toInt, .int .u64 x.ver.toNat] tItem)) (HC5.out.alloc _)
            have hle : ¬ x.key.data.toList ≤ y.key.data.toList := HRI.out p y (by omega) hy
            have hbl : Op.bytesLess x.key.toList y.key.toList = false := by
              rw [ByteArray.toList_eq, ByteArray.toList_eq, bytesLess_eq]
              exact decide_eq_false (fun h => hle (List.le_of_lt h))
            have hbe : (x.key.toList == y.key.toList) = false := by
              rw [str_eq]
              exact decide_eq_false (fun h => hle (by rw [h]; exact List.le_refl _))
            have e1 : IntKind.i64.wrap ((i : Int) - 1) = (p : Int) := by rw [IntWalk.i64_in _ (by omega)]; omega
            have p0 : (0 : Int) ≤ (p : Int) := by omega
            have p1 : (p : Int) < (nx : Int) := by omega
            clear hp hy hcy hz hle
            go_wp2_with fail
            go_quiet (fail)
            go_wp2_with fail
            refine ((HLOS _).out (HC5.out.trans (by (repeat (first | (with_reducible exact Chg.refl _ _) | (with_reducible assumption) | (with_reducible refine Chg.drewN ?_ _) | (with_reducible refine Chg.drew ?_) | (with_reducible refine Chg.alloc ?_ _) | (with_reducible refine Chg.setCell ?_ (by first | (left; simp [DevH.foot]; done) | (right; simp; done) | (right; simp; omega)) _)))))).mono ?_
            rintro e w7 ⟨rfl, hm7, hc7⟩
            have HM7 : Hid (Mp w7 m2 M2 (adels es (lx.take (i + 1)))) := by show Mp _ _ _ _; rw [← HAD.out]; exact hm7
            have HC7 : Hid (Chg (fun k => k = M2) w3 w7) := Chg.trans (Chg.trans HCH.out (Chg.mono (Chg.trans HC5.out (by (repeat (first | (with_reducible exact Chg.refl _ _) | (with_reducible assumption) | (with_reducible refine Chg.drewN ?_ _) | (with_reducible refine Chg.drew ?_) | (with_reducible refine Chg.alloc ?_ _) | (with_reducible refine Chg.setCell ?_ (by first | (left; simp [DevH.foot]; done) | (right; simp; done) | (right; simp; omega)) _))))) (fun _ _ h => h.elim))) hc7
            clear hm7 hc7 HLOS
            go_wp2_with fail
            go_roundg (nx - (i + 1))
            case measure => have := HIN.out; omega
            case rel => exact ⟨i + 1, by go_num, by have := HIN.out; omega, rfl, HM7.out.chgNo (by (repeat (first | (with_reducible exact Chg.refl _ _) | (with_reducible assumption) | (with_reducible refine Chg.drewN ?_ _) | (with_reducible refine Chg.drew ?_) | (with_reducible refine Chg.alloc ?_ _) | (with_reducible refine Chg.setCell ?_ (by first | (left; simp [DevH.foot]; done) | (right; simp; done) | (right; simp; omega)) _)))), HC7.out.trans (Chg.mono (S := fun k => k = M2) (T := No) (by (repeat (first | (with_reducible exact Chg.refl _ _) | (with_reducible assumption) | (with_reducible refine Chg.drewN ?_ _) | (with_reducible refine Chg.drew ?_) | (with_reducible refine Chg.alloc ?_ _) | (with_reducible refine Chg.setCell ?_ (by first | (left; simp [DevH.foot]; done) | (right; simp; done) | (right; simp; omega)) _)))) (fun _ _ h => h.elim))⟩
        · obtain rfl : i = nx := by omega
          have hme : Mp wr m2 M2 (adels es lx) := by rw [HNX.out, List.take_length] at hmx; exact hmx
          have HI1 := Lib.hid (items_len hme (Nat.le_trans (adels_len es lx) HLE.out) now (k := 0) (by rw [HLX.out, mitems_gone HMR.out.ok HMR.out.nodup]; rfl))
          have HI2 := fun W => Lib.hid (fun hc : Chg No wr W => items_len (HMR.out.chgNo hc) HLE.out now (k := i) (by rw [← HLX.out, ← HNX.out]))
          clear hmr hmx hch HS hme
          go_wp2_with fail
          refine HI1.out.mono ?_
          rintro e w5 ⟨⟨A5, c5, rfl⟩, hc5⟩
          have HC5 := Lib.hid hc5
          clear hc5 HI1
          go_wp2_with fail
          refine ((HI2 _).out (HC5.out.trans (by (repeat (first | (with_reducible exact Chg.refl _ _) | (with_reducible assumption) | (with_reducible refine Chg.drewN ?_ _) | (with_reducible refine Chg.drew ?_) | (with_reducible refine Chg.alloc ?_ _) | (with_reducible refine Chg.setCell ?_ (by first | (left; simp [DevH.foot]; done) | (right; simp; done) | (right; simp; omega)) _)))))).mono ?_
          rintro e w6 ⟨⟨A6, c6, rfl⟩, hc6⟩
          have HC6 : Hid (Chg No wr w6) := Chg.trans (Chg.trans HC5.out (by (repeat (first | (with_reducible exact Chg.refl _ _) | (with_reducible assumption) | (with_reducible refine Chg.drewN ?_ _) | (with_reducible refine Chg.drew ?_) | (with_reducible refine Chg.alloc ?_ _) | (with_reducible refine Chg.setCell ?_ (by first | (left; simp [DevH.foot]; done) | (right; simp; done) | (right; simp; omega)) _))))) hc6
          clear hc6 HI2
          go_wp2_with fail
          go_ret
          exact ⟨rfl, (HC3.out.then HCH.out (fun i hi hT => by have := HML.out; omega)).trans (HC6.out.trans (by (repeat (first | (with_reducible exact Chg.refl _ _) | (with_reducible assumption) | (with_reducible refine Chg.drewN ?_ _) | (with_reducible refine Chg.drew ?_) | (with_reducible refine Chg.alloc ?_ _) | (with_reducible refine Chg.setCell ?_ (by first | (left; simp [DevH.foot]; done) | (right; simp; done) | (right; simp; omega)) _)))))⟩
end
end Go.Proofs.YtedkoplgfidjlaaDoor
