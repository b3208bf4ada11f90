/- The flash device's settle, Crash, On, walked. -/
import Derived.Test.YtinofdfjaopdcaaFlashF
import Derived.Test.YtinofdfjaopdcaaFlashD
import Derived.Deep.RegionHeld3
namespace Go.Proofs.Ytinofdfjaopdcaa
open Go.RowKit
open Go.ChangeMaps (setBlock)
attribute [local go_sem ↓] Go.wp_at_zero Go.wp_at_succ
set_option linter.unusedSimpArgs false
set_option linter.unusedVariables false

set_option maxRecDepth 100000 in
set_option maxHeartbeats 2000000 in
theorem settle_calls {w : World} {h : DevH} {D : Dev} (hd : DevAt w h D) (A : Option Addr) (n c : Nat) (picks : List UInt8) (te : TypeId) (hn : picks.length = n) (hr : ∀ W, Chg h.foot w W → Rd W te A n (bys picks)) :
    Calls Try.prog 72 #[.pointer (some ⟨h.d, 0, none⟩), .slice A n c] w fun e w' => e = .returned (.tuple #[]) ∧ DevAt w' h (D.settle picks) ∧ Chg h.foot w w' := by
  have HW := Lib.hid (waiting_calls hd)
  have HD := Lib.hid hd
  have HR := fun W => Lib.hid (hr W)
  have HLN := Lib.hid hn
  have hwle := waiting_le D
  have hnm := DevN.nmost hd
  have HWL := Lib.hid (DevN.wt_lt hd)
  obtain ⟨m, hm⟩ : ∃ m, m = D.waiting.length := ⟨_, rfl⟩
  rw [← hm] at HW hwle
  have HM := Lib.hid hm
  have hm4 : m ≤ 4096 := by omega
  clear hr hn hm
  go_enter Try.func72, Try.ntmps72
  go_wp2_with fail
  refine HW.out.mono ?_
  rintro e w1 ⟨v, rfl, ho, hc1⟩
  have hd1 : DevAt w1 h D := HD.out.chgNo hc1
  obtain ⟨A1, c1, rfl, hmc, hrd⟩ := own_slice ho
  have HRD : ∀ W, Hid (Chg h.foot w1 W → Rd W 3 A1 m (D.waiting.map encI)) := fun W => fun hc => (by simpa using hrd : Rd w1 3 A1 m (D.waiting.map encI)).chg hc (fun g cur fz hg => DevN.not_foot hd1 hg (by decide) (by decide))
  have HD1 := Lib.hid hd1
  have HC1 : Hid (Chg h.foot w w1) := hc1.mono (fun _ _ h => h.elim)
  clear hd1 hc1 ho hrd HW
  go_wp2
  go_loopg [10] m (fun g v10 wr => ∃ k : Nat, v10 = .int .i64 k ∧ k ≤ m ∧ m - k = g ∧ Hid (DevAt wr h (D.atK picks k) ∧ Chg h.foot w1 wr))
  case atStart => exact ⟨0, rfl, by omega, by omega, ⟨by rw [Dev.atK_zero]; exact HD1.out, Chg.refl _ _⟩⟩
  case round =>
    obtain ⟨k, rfl, hk, hg, H⟩ := hrel
    subst hg
    by_cases h0 : k < m
    · obtain ⟨a, ha⟩ : ∃ a, D.waiting[k]? = some a := ⟨_, List.getElem?_eq_getElem (by have := HM.out; omega)⟩
      obtain ⟨han, haw, _⟩ := Dev.waiting_get ha
      obtain ⟨p, hp⟩ := Option.isSome_iff_exists.1 haw
      obtain ⟨g, off, rfl, hg1, hc⟩ := ((HRD wr).out H.out.2).at_ h0
      have hcell := hc k (.int .i64 a) (by rw [List.getElem?_map, ha]; rfl)
      obtain ⟨d0, d1, _, _⟩ := DevN.cells H.out.1
      obtain ⟨⟨u0, hu0⟩, hfz⟩ := DevN.rowcell H.out.1 (a := a) han
      have hki : (0 : Int) ≤ (k : Int) := by omega
      have hkm : (k : Int) < (m : Int) := by omega
      have hai : (0 : Int) ≤ (a : Int) := by omega
      have HA := Lib.hid ha
      have HP := Lib.hid hp
      have dn : (D.atK picks k).n = D.n := rfl
      rw [dn] at d0
      obtain ⟨dN, hdN⟩ : ∃ dN, dN = D.n := ⟨_, rfl⟩
      rw [← hdN] at d0 han
      have han2 : (a : Int) < (dN : Int) := by omega
      have HS := Lib.hid (fun (pk : Option UInt8) (hpk : pk = picks[k]?) => (by rw [hpk]; exact Dev.atK_succ HA.out HP.out HWL.out : D.atK picks (k + 1) = (D.atK picks k).setFl a (Dev.fate (D.fl a) p pk)))
      have HSAME := Lib.hid (fun (hf : Dev.fate (D.fl a) p picks[k]? = D.fl a) => (by rw [Dev.atK_succ HA.out HP.out HWL.out, hf, ← Dev.atK_fl (picks := picks) HA.out, Dev.setFl_same] : D.atK picks (k + 1) = D.atK picks k))
      have HDN := Lib.hid hdN
      clear ha haw hp hc dn hdN
      by_cases hkn : k < n
      · obtain ⟨x, hx⟩ : ∃ x, picks[k]? = some x := ⟨_, List.getElem?_eq_getElem (by have := HLN.out; omega)⟩
        obtain ⟨g2, off2, rfl, hg2, hc2⟩ := ((HR wr).out (HC1.out.trans H.out.2)).at_ hkn
        have hcx := hc2 k (.int .u8 x.toNat) (by simp [bys, hx])
        have hkn2 : (k : Int) < (n : Int) := by omega
        have HX := Lib.hid hx
        clear hc2 hx
        by_cases hq0 : x.toNat % 3 = 0
        · have hq0' : ((x.toNat : Int) % 3) = 0 := by omega
          have hsame : D.atK picks (k + 1) = D.atK picks k := HSAME.out (by rw [HX.out]; simp [Dev.fate, hq0])
          have HSM := Lib.hid hsame
          clear hsame HS HSAME hq0
          go_wp2
          go_roundg (m - (k + 1))
          case measure => omega
          case rel => exact ⟨k + 1, by go_num, by omega, rfl, ⟨by rw [HSM.out]; exact H.out.1, H.out.2⟩⟩
        · have hq0' : ¬ ((x.toNat : Int) % 3) = 0 := by omega
          by_cases hq1 : x.toNat % 3 = 1
          · have hq1' : ((x.toNat : Int) % 3) = 1 := by omega
            have HS1 : Hid (D.atK picks (k + 1) = (D.atK picks k).setFl a p) := by
              show _ = _
              have := HS.out _ rfl
              rw [HX.out] at this
              rw [this]; simp [Dev.fate, hq1]
            obtain ⟨es, hmm, hw1, hw2⟩ := H.out.1.map
            obtain ⟨v, hv⟩ := hw2 a p HP.out
            obtain ⟨i', pg', e1, _, e3, hpg⟩ := hw1 _ _ (aget_mem hv)
            obtain rfl : a = i' := by omega
            have e4 : (D.atK picks k).wt a = some p := HP.out
            rw [e4] at e3
            obtain rfl : p = pg' := Option.some.inj e3
            obtain ⟨q, rfl⟩ := hpg.ptr
            have AP := DevN.apart H.out.1
            have HS3 : Hid (∀ W : World, Chg (fun i => i = h.F) wr W → W.cell? ⟨h.d, 0, none⟩ = some (.slice (some ⟨h.F, 0, none⟩) dN dN) ∧ W.cell? ⟨h.d, 1, none⟩ = some (.map (some h.M)) ∧ (Instr.lookup 79 (.map (some h.M)) (.int .i64 a) false).run Try.prog W = .ok (.pointer q) W) := fun W hc => by
              have hl := (hmm.chg hc (fun e => AP.2.2 e)).lookup (P := Try.prog) (keyLaw_int Try.underlying3) Try.underlying79 (zero_pp W) (a : Int) false
              rw [hv] at hl
              obtain ⟨b1, b2, b3, b4, hb⟩ := H.out.1.box
              have hb' := hb.chg hc (fun e => AP.1 e.symm)
              have e0 := hb'.cell 0
              have e1 := hb'.cell 1
              simp at e0 e1
              refine ⟨?_, e1, hl⟩
              rw [HDN.out]; exact e0
            have HPG := Lib.hid hpg
            clear hmm hw1 hw2 hv e1 e3 e4 hpg hq0 hq1 HS HSAME AP
            go_wp2_with fail
            go_region_held3 (fun w' => w'.cell? ⟨h.d, 0, none⟩ = some (.slice (some ⟨h.F, 0, none⟩) dN dN) ∧ w'.cell? ⟨h.d, 1, none⟩ = some (.map (some h.M)) ∧ (Instr.lookup 79 (.map (some h.M)) (.int .i64 a) false).run Try.prog w' = .ok (.pointer q) w') (exact HS3.out _ (by repeat (first | exact Chg.refl _ _ | exact (chg_setCell wr ⟨h.F, a, none⟩ _) | refine Chg.drewN ?_ _ | refine Chg.drew ?_ | refine Chg.setCell ?_ (.inl rfl) _))) (fail)
            go_wp2
            go_roundg (m - (k + 1))
            case measure => omega
            case rel => exact ⟨k + 1, by go_num, by omega, rfl, ⟨by rw [HS1.out]; exact DevN.setFl (H.out.1.chgNo ((Chg.refl _ _).drew)) a (HPG.out.chg (S := No) ((Chg.refl _ _).drew) (fun _ _ _ _ _ _ h => h)), H.out.2.drew.setCell (.inl (.inr (.inl rfl))) _⟩⟩
          · have hq1' : ¬ ((x.toNat : Int) % 3) = 1 := by omega
            have HS1 : Hid (D.atK picks (k + 1) = (D.atK picks k).setFl a .torn) := by
              show _ = _
              have := HS.out _ rfl
              rw [HX.out] at this
              rw [this]; simp [Dev.fate, hq0, hq1]
            have HCA : Hid (DevAt ((wr.alloc (.cells #[.slice none 0 0, .bool true] tPage)).setCell ⟨h.F, a, none⟩ (.pointer (some ⟨wr.heap.size, 0, none⟩))) h (D.atK picks (k + 1))) := by
              show DevAt _ _ _
              rw [HS1.out]
              refine DevN.setFl (H.out.1.chgNo ((Chg.refl _ _).alloc _)) a ⟨wr.heap.size, by simp, rfl, Blk.new _ _ _⟩
            have hne : h.F ≠ wr.heap.size := by
              obtain ⟨ps, hF, _⟩ := H.out.1.row
              have := hF.lt; omega
            obtain ⟨⟨u1, hu1⟩, hfz1⟩ := DevN.rowcell (H.out.1.chgNo ((Chg.refl _ _).alloc (.cells #[.slice none 0 0, .bool true] tPage))) (a := a) (by show a < D.n; rw [← HDN.out]; omega)
            clear hq0 hq1 HS HSAME HS1
            go_wp2
            go_roundg (m - (k + 1))
            case measure => omega
            case rel => exact ⟨k + 1, by go_num, by omega, rfl, ⟨HCA.out, (H.out.2.alloc _).setCell (.inl (.inr (.inl rfl))) _⟩⟩
      · have hkn2 : ¬ (k : Int) < (n : Int) := by omega
        have hsame : D.atK picks (k + 1) = D.atK picks k := HSAME.out (by rw [List.getElem?_eq_none (by have := HLN.out; omega)]; rfl)
        have HSM := Lib.hid hsame
        clear hsame HS HSAME
        go_wp2
        go_roundg (m - (k + 1))
        case measure => omega
        case rel => exact ⟨k + 1, by go_num, by omega, rfl, ⟨by rw [HSM.out]; exact H.out.1, H.out.2⟩⟩
    · obtain rfl : m = k := by omega
      have hfin : D.atK picks m = D.atK picks D.waiting.length := by rw [← HM.out]
      have hall := Dev.atK_all (picks := picks) HWL.out
      obtain ⟨D1, hD1⟩ : ∃ D1, D1 = D.atK picks m := ⟨_, rfl⟩
      rw [← hfin, ← hD1] at hall
      have hl1 : D1.losses = D.losses := by rw [hD1]; rfl
      have HH := Lib.hid H.out
      have HDD : Hid (DevAt wr h D1) := by show DevAt wr h D1; rw [hD1]; exact H.out.1
      have HC := Lib.hid (HC1.out.trans H.out.2)
      have HALL := Lib.hid hall
      clear hfin hall hD1 H HH h0 hk HWL HRD HD1 HC1 HM
      obtain ⟨b0, b1, b2, b3, hb⟩ := HDD.out.box
      have d1 := hb.cell 1
      simp at d1
      obtain ⟨es, hmm, _⟩ := HDD.out.map
      obtain ⟨o, hrun, hmc⟩ := hmm.clear (P := Try.prog) (ty := 0) Try.underlying79
      obtain ⟨w3, hw3⟩ : ∃ w3, w3 = setBlock wr h.M o := ⟨_, rfl⟩
      have hc3 : Chg (fun i => i = h.M) wr w3 := by rw [hw3]; exact chg_setBlock _ _ _
      rw [← hw3] at hrun hmc
      have AP := DevN.apart HDD.out
      have hb3 := hb.chg hc3 (fun e => AP.2.1 e.symm)
      have h4 := hb3.cell 4
      simp at h4
      have f4 := hb3.frozen 4
      have hfd : Chg h.foot wr (w3.setCell ⟨h.d, 4, none⟩ (.int .i64 (wrap64 (D1.losses + 1)))) :=
        (hc3.mono (fun k _ e => .inr (.inr e))).trans ((chg_setCell w3 ⟨h.d, 4, none⟩ _).mono (fun k _ e => .inl e))
      have fin : DevAt (w3.setCell ⟨h.d, 4, none⟩ (.int .i64 (wrap64 (D1.losses + 1)))) h (D.settle picks) := by
        rw [← HALL.out]
        refine DevN.step HDD.out hfd rfl ⟨b0, b1, b2, b3, ?_⟩ (.inr ⟨rfl, ?_⟩) (.inl ⟨[], ?_, ?_, ?_⟩) HDD.out.armed
        · have := hb3.set_ 4 (.int .i64 (wrap64 (D1.losses + 1)))
          rw [hl1] at this
          simpa [Dev.more, hl1] using this
        · obtain ⟨ps, hF, _⟩ := HDD.out.row
          have e1 := hc3.block h.F hF.lt (fun e => AP.2.2 e.symm)
          have e2 := (chg_setCell w3 ⟨h.d, 4, none⟩ (.int .i64 (wrap64 (D1.losses + 1)))).block h.F (by have := hc3.size; have := hF.lt; omega) AP.1
          exact e2.trans e1
        · exact hmc.chg (chg_setCell w3 ⟨h.d, 4, none⟩ _) AP.2.1
        · intro k v h; cases h
        · intro i pg h; cases h
      have F : Hid (DevAt (w3.setCell ⟨h.d, 4, none⟩ (.int .i64 (wrap64 (D1.losses + 1)))) h (D.settle picks) ∧ Chg h.foot w (w3.setCell ⟨h.d, 4, none⟩ (.int .i64 (wrap64 (D1.losses + 1))))) := ⟨fin, HC.out.trans hfd⟩
      clear fin hfd hb3 hb hmc hc3 hmm AP hl1 hw3
      go_wp2
      go_end0
      exact ⟨rfl, F.out⟩

/-- the device's own box alone is changed -/
theorem DevN.boxed {w w' : World} {h : DevH} {D D' : Dev} (hd : DevAt w h D) (hc : Chg (fun i => i = h.d) w w') (hn : D'.n = D.n) (hf : D'.fl = D.fl) (hw : D'.wt = D.wt) (ha : 0 ≤ D'.armed ∧ D'.armed ≤ 9223372036854775807)
    (box : ∃ a b c e, Blk w' h.d tDev #[.slice (some ⟨h.F, 0, none⟩) D'.n D'.n, .map (some h.M), .bool D'.off, .int .i64 D'.armed, .int .i64 D'.losses, .int .i64 a, .int .i64 b, .int .i64 c, .int .i64 e]) : DevAt w' h D' := by
  have AP := DevN.apart hd
  refine DevN.step hd (hc.mono (fun k _ e => .inl e)) hn box (.inr ⟨hf, ?_⟩) (.inr ⟨hw, ?_⟩) ha
  · obtain ⟨ps, hF, _⟩ := hd.row
    exact hc.block h.F hF.lt AP.1
  · obtain ⟨es, hm, _⟩ := hd.map
    exact hc.block h.M hm.lt AP.2.1

set_option maxRecDepth 100000 in
theorem crash_calls {w : World} {h : DevH} {D : Dev} (hd : DevAt w h D) (A : Option Addr) (n c : Nat) (picks : List UInt8) (te : TypeId) (hn : picks.length = n) (hr : ∀ W, Chg h.foot w W → Rd W te A n (bys picks)) :
    Calls Try.prog 37 #[.pointer (some ⟨h.d, 0, none⟩), .slice A n c] w fun e w' => e = .returned (.tuple #[]) ∧ DevAt w' h (D.crash picks) ∧ Chg h.foot w w' := by
  have HS := Lib.hid (settle_calls hd A n c picks te hn hr)
  clear hd hn hr
  go_enter Try.func37, Try.ntmps37
  go_wp2_with fail
  refine HS.out.mono ?_
  rintro e w1 ⟨rfl, hd1, hc1⟩
  obtain ⟨D1, hD1⟩ : ∃ D1, D1 = D.settle picks := ⟨_, rfl⟩
  have hcr : D.crash picks = { D1 with off := true } := by rw [hD1]; rfl
  rw [← hD1] at hd1
  have HCR := Lib.hid hcr
  obtain ⟨s0, s1, s2, s3, hb⟩ := hd1.box
  have h2 := hb.cell 2
  have h8 := hb.cell 8
  simp at h2 h8
  have f2 := hb.frozen 2
  have f8 := hb.frozen 8
  have F : Hid (DevAt ((w1.setCell ⟨h.d, 2, none⟩ (.bool true)).setCell ⟨h.d, 8, none⟩ (.int .i64 (wrap64 (s3 + 1)))) h { D1 with off := true } ∧ Chg h.foot w ((w1.setCell ⟨h.d, 2, none⟩ (.bool true)).setCell ⟨h.d, 8, none⟩ (.int .i64 (wrap64 (s3 + 1))))) := by
    have hc : Chg (fun i => i = h.d) w1 ((w1.setCell ⟨h.d, 2, none⟩ (.bool true)).setCell ⟨h.d, 8, none⟩ (.int .i64 (wrap64 (s3 + 1)))) := (chg_setCell w1 ⟨h.d, 2, none⟩ _).trans (chg_setCell _ ⟨h.d, 8, none⟩ _)
    refine ⟨DevN.boxed hd1 hc rfl rfl rfl hd1.armed ⟨s0, s1, s2, wrap64 (s3 + 1), ?_⟩, hc1.trans (hc.mono (fun k _ e => .inl e))⟩
    have := (hb.set_ 2 (.bool true)).set_ 8 (.int .i64 (wrap64 (s3 + 1)))
    simpa using this
  clear hd1 hc1 hb hD1 hcr HS
  go_wp2
  go_end0
  exact ⟨rfl, by rw [HCR.out]; exact F.out⟩

set_option maxRecDepth 100000 in
theorem on_calls {w : World} {h : DevH} {D : Dev} (hd : DevAt w h D) :
    Calls Try.prog 38 #[.pointer (some ⟨h.d, 0, none⟩)] w fun e w' => e = .returned (.tuple #[]) ∧ DevAt w' h D.on ∧ Chg h.foot w w' := by
  have HS := Lib.hid (settle_calls hd none 0 0 [] tU8 rfl (fun W _ => Rd.nil _ _ _))
  clear hd
  go_enter Try.func38, Try.ntmps38
  go_wp2_with fail
  refine HS.out.mono ?_
  rintro e w1 ⟨rfl, hd1, hc1⟩
  obtain ⟨D1, hD1⟩ : ∃ D1, D1 = D.settle [] := ⟨_, rfl⟩
  have hcr : D.on = { D1 with off := false, armed := 0 } := by rw [hD1]; rfl
  rw [← hD1] at hd1
  have HCR := Lib.hid hcr
  obtain ⟨s0, s1, s2, s3, hb⟩ := hd1.box
  have h2 := hb.cell 2
  have h3 := hb.cell 3
  simp at h2 h3
  have f2 := hb.frozen 2
  have f3 := hb.frozen 3
  have F : Hid (DevAt ((w1.setCell ⟨h.d, 2, none⟩ (.bool false)).setCell ⟨h.d, 3, none⟩ (.int .i64 0)) h { D1 with off := false, armed := 0 } ∧ Chg h.foot w ((w1.setCell ⟨h.d, 2, none⟩ (.bool false)).setCell ⟨h.d, 3, none⟩ (.int .i64 0))) := by
    have hc : Chg (fun i => i = h.d) w1 ((w1.setCell ⟨h.d, 2, none⟩ (.bool false)).setCell ⟨h.d, 3, none⟩ (.int .i64 0)) := (chg_setCell w1 ⟨h.d, 2, none⟩ _).trans (chg_setCell _ ⟨h.d, 3, none⟩ _)
    refine ⟨DevN.boxed hd1 hc rfl rfl rfl ⟨by show (0 : Int) ≤ 0; omega, by show (0 : Int) ≤ _; omega⟩ ⟨s0, s1, s2, s3, ?_⟩, hc1.trans (hc.mono (fun k _ e => .inl e))⟩
    have := (hb.set_ 2 (.bool false)).set_ 3 (.int .i64 0)
    simpa using this
  clear hd1 hc1 hb hD1 hcr HS
  go_wp2
  go_end0
  exact ⟨rfl, by rw [HCR.out]; exact F.out⟩
end Go.Proofs.Ytinofdfjaopdcaa
