/- Packed texts: SupD, BuckB, BuckC. -/
import Derived.Test.YtplpbbdakihnfaaGreatPq14
import Derived.Test.YtplpbbdakihnfaaGreatPq08
set_option linter.unusedSimpArgs false
set_option linter.unusedVariables false
section
namespace Go.Proofs.YtplpbbdakihnfaaGreat
open Go.RowKit
attribute [local go_sem ↓] Go.wp_at_zero Go.wp_at_succ
namespace Dev
def stB (D : Dev) (b : Sb) : Sb := { b with seq := D.sload.seq + 1 }
def stW (D : Dev) (b : Sb) : Dev := D.write (((D.stB b).seq % 2 : Nat) : Int) (D.stB b).enc
def stD (D : Dev) (b : Sb) : Dev := if D.changeE = 0 then (D.stW b).flush else D.stW b
def stE (D : Dev) (b : Sb) : Int := if D.changeE = 0 then (D.stW b).changeE else D.changeE
def stR (D : Dev) (b : Sb) : Sb := if D.stE b = 0 then (D.stB b).norm else Sb.zero
end Dev
theorem changeE_in (D : Dev) : D.changeE = 0 ∨ D.changeE = 4 := by unfold Dev.changeE; split <;> simp
theorem sbsE_in (D : Dev) : D.sbsE = 0 ∨ D.sbsE = 5 := by unfold Dev.sbsE; split <;> simp
set_option maxRecDepth 100000 in
set_option maxHeartbeats 4000000 in
theorem store_calls {w : World} {h : DevH} {D : Dev} (hd : DevAt w h D) (hoff : D.off = false) (hn : 2 ≤ D.n) (b : Sb) (hb : b.Ok) (hq : D.sload.seq + 1 < 18446744073709551616) :
    Calls Tryz.prog 61 #[.pointer (some ⟨h.d, 0, none⟩), sbV b] w fun e w' => e = .returned (.tuple #[sbV (D.stR b), .int .i64 (D.stE b)]) ∧ DevAt w' h (D.stD b) ∧ Chg h.foot w w' := by
  have HLD := fun W => Lib.hid (fun hc : Chg No w W => load_calls7 (hd.chgNo hc).at_ hoff hn)
  have hbo : (D.stB b).Ok := ⟨hq, hb.epoch, hb.reserved, hb.horizon, hb.gen, hb.image⟩
  obtain ⟨was, hwas⟩ : ∃ was, was = D.sload := ⟨_, rfl⟩
  rw [← hwas] at HLD hq
  obtain ⟨q0, q1, q2, q3, q4, q5, q6⟩ := was
  obtain ⟨E, hE⟩ : ∃ E, E = D.sbsE := ⟨_, rfl⟩
  rw [← hE] at HLD
  have hEin : E = 0 ∨ E = 5 := by rw [hE]; exact sbsE_in D
  obtain ⟨b0, b1, b2, b3, b4, b5, b6⟩ := b
  have hsb : D.stB ⟨b0, b1, b2, b3, b4, b5, b6⟩ = ⟨q0 + 1, b1, b2, b3, b4, b5, b6⟩ := by unfold Dev.stB; rw [← hwas]
  have HSB := Lib.hid hsb
  rw [hsb] at hbo
  have HEN := fun W => Lib.hid (encode_calls ⟨q0 + 1, b1, b2, b3, b4, b5, b6⟩ hbo W)
  obtain ⟨pb, hpb⟩ : ∃ pb, pb = (Sb.enc ⟨q0 + 1, b1, b2, b3, b4, b5, b6⟩) := ⟨_, rfl⟩
  have hpl : pb.length = 64 := by rw [hpb]; exact Sb.enc_len _
  have HDC : Hid (Sb.dec pb = some (Sb.norm ⟨q0 + 1, b1, b2, b3, b4, b5, b6⟩)) := by show _ = _; have := Sb.dec_enc _ hbo []; rw [List.append_nil] at this; rw [hpb]; exact this
  have HDW : Hid (D.stW ⟨b0, b1, b2, b3, b4, b5, b6⟩ = D.write (((q0 + 1) % 2 : Nat) : Int) pb) := by show _ = _; unfold Dev.stW; rw [hsb, hpb]
  rw [← hpb] at HEN
  have HPL := Lib.hid hpl
  have HD := Lib.hid hd
  have HN := Lib.hid hn
  simp only at hq
  simp only [sbV_eq] at HLD HEN ⊢
  have ec : ((q0 + 1 : Nat) : Int) = (q0 : Int) + 1 := by omega
  simp only [ec] at HEN
  have ew : IntKind.u64.wrap ((q0 : Int) + 1) = (q0 : Int) + 1 := IntWalk.u64_in _ (by omega)
  have qm : ((q0 : Int) == 18446744073709551615) = false := by simp; omega
  clear hd hwas hE hsb hpb hpl hn hoff hb hbo
  go_enter Tryz.func61, Tryz.ntmps61
  go_wp2_with fail
  refine ((HLD _).out (by (repeat (first | (with_reducible exact Chg.refl _ _) | (with_reducible assumption) | (with_reducible refine Chg.drewN ?_ _) | (with_reducible refine Chg.drew ?_) | (with_reducible refine Chg.alloc ?_ _) | (with_reducible refine Chg.setCell ?_ (by first | (left; simp [DevH.foot]; done) | (right; simp; done) | (right; simp; omega)) _))))).mono ?_
  rintro e w1 ⟨rfl, hd1, hc1⟩
  have hX : Blk w1 w.heap.size tSb #[.int .u64 b0, .int .u64 b1, .int .u64 b2, .int .u64 b3, .int .u64 b4, .bool b5, .int .i64 b6] := ((Blk.new w _ _).alloc _).chg hc1 (fun hf => by have := foot_size HD.out hf; omega)
  have hR : Blk w1 (w.heap.size + 1) tSb #[.int .u64 0, .int .u64 0, .int .u64 0, .int .u64 0, .int .u64 0, .bool false, .int .i64 0] := by
    have := Blk.new (w.alloc (.cells #[.int .u64 b0, .int .u64 b1, .int .u64 b2, .int .u64 b3, .int .u64 b4, .bool b5, .int .i64 b6] tSb)) tSb #[.int .u64 0, .int .u64 0, .int .u64 0, .int .u64 0, .int .u64 0, .bool false, .int .i64 0]
    simp only [World.size_alloc] at this
    exact this.chg hc1 (fun hf => by have := foot_size HD.out hf; omega)
  have HX := Lib.hid hX
  have HR := Lib.hid hR
  have HC1 : Hid (Chg h.foot w w1) := (((Chg.refl h.foot w).alloc _).alloc _).trans hc1
  have HD1 := Lib.hid hd1
  have x0 := hX.cell 0
  have x1 := hX.cell 1
  have x2 := hX.cell 2
  have x3 := hX.cell 3
  have x4 := hX.cell 4
  have x5 := hX.cell 5
  have x6 := hX.cell 6
  have f0 := hX.frozen 0
  have f1 := hX.frozen 1
  have f2 := hX.frozen 2
  have f3 := hX.frozen 3
  have f4 := hX.frozen 4
  have f5 := hX.frozen 5
  have f6 := hX.frozen 6
  have xlt : w.heap.size < w1.heap.size := hX.lt
  simp at x0 x1 x2 x3 x4 x5 x6
  clear hX hR hd1 hc1 HLD
  rcases hEin with rfl | rfl
  ·
    go_wp2_with fail
    refine (HEN _).out.mono ?_
    rintro e w2 ⟨gE, rfl, hbE, hgE, hcE⟩
    have hs0 : Blk (w1.setCell ⟨w.heap.size, 0, none⟩ (.int .u64 ((q0 : Int) + 1))) w.heap.size tSb #[.int .u64 ((q0 : Int) + 1), .int .u64 b1, .int .u64 b2, .int .u64 b3, .int .u64 b4, .bool b5, .int .i64 b6] := by
      have := HX.out.set_ 0 (.int .u64 ((q0 : Int) + 1))
      simpa using this
    have hcx : Chg (fun k => k = w.heap.size) w1 (w1.setCell ⟨w.heap.size, 0, none⟩ (.int .u64 ((q0 : Int) + 1))) := chg_setCell w1 ⟨w.heap.size, 0, none⟩ _
    have hdx : DevAt (w1.setCell ⟨w.heap.size, 0, none⟩ (.int .u64 ((q0 : Int) + 1))) h D := (dev_ty HD1.out hcx (fun k hk e => by subst e; exact ⟨_, tSb, (0, 0), HX.out, by decide, by decide, by decide, by decide⟩)).at_
    have HX2 := Lib.hid ((hs0.alloc _).chg hcE (fun h => h))
    have HR2 := Lib.hid (((HR.out.chg hcx (by show ¬ w.heap.size + 1 = w.heap.size; omega)).alloc _).chg hcE (fun h => h))
    have HC2 : Hid (Chg h.foot w w2) := ((HC1.out.then hcx (fun i hi h => by omega)).alloc _).trans (hcE.mono (fun _ _ h => h.elim))
    have HD2 : Hid (DevAt w2 h D) := ((hdx.chgNo (Chg.alloc (Chg.refl No _) _)).chgNo hcE).at_
    have HBE := Lib.hid hbE
    have hrd : Rd w2 tU8 (some ⟨gE, 0, none⟩) 64 (bys pb) := by
      have := Rd.ofBlk (k := 64) hbE (by simp [bys_length, HPL.out])
      have e : (bys pb).toArray.toList.take 64 = bys pb := List.take_of_length_le (by simp [bys_length, HPL.out])
      rwa [e] at this
    have HWR := Lib.hid (write_calls HD2.out (((q0 + 1) % 2 : Nat) : Int) (some ⟨gE, 0, none⟩) 64 64 pb hrd (by omega))
    have y0 := HX2.out.cell 0
    simp at y0
    clear hbE hgE hcE hs0 hcx hdx hrd x0 x1 x2 x3 x4 x5 x6 f0 f1 f2 f3 f4 f5 f6 xlt HX HR HC1 HD1
    have em : (((q0 + 1) % 2 : Nat) : Int) = ((q0 : Int) + 1) % 2 := by omega
    have hwe : D.writeE (((q0 + 1) % 2 : Nat) : Int) pb.length = D.changeE := by
      unfold Dev.writeE
      rw [show D.has (((q0 + 1) % 2 : Nat) : Int) = true from by simp [Dev.has]; have := HN.out; omega, decide_eq_true (by rw [HPL.out]; omega)]
      rfl
    rw [hwe, em] at HWR
    rw [em] at HDW
    clear hwe em
    obtain ⟨D1, hD1⟩ : ∃ D1, D1 = D.write (((q0 : Int) + 1) % 2) pb := ⟨_, rfl⟩
    rw [← hD1] at HWR HDW
    clear hD1
    have hce := changeE_in D
    obtain ⟨ce, hcee⟩ : ∃ ce, ce = D.changeE := ⟨_, rfl⟩
    have HCE := Lib.hid hcee
    rw [← hcee] at HWR hce
    clear hcee
    go_wp2_with fail
    refine HWR.out.mono ?_
    rintro e w3 ⟨rfl, hd3, hc3⟩
    have HX3 := Lib.hid (HX2.out.chg hc3 (fun hf => HD2.out.not_foot HX2.out (by decide) (by decide) hf))
    have HR3 := Lib.hid (HR2.out.chg hc3 (fun hf => HD2.out.not_foot HR2.out (by decide) (by decide) hf))
    have HB3 := Lib.hid (HBE.out.chg hc3 (fun hf => HD2.out.not_foot HBE.out (by decide) (by decide) hf))
    have HC3 := Lib.hid (HC2.out.trans hc3)
    have HD3 := Lib.hid hd3
    clear hd3 hc3 HWR
    rcases hce with rfl | rfl
    · have hce1 := changeE_in D1
      have HFL := Lib.hid (flush_calls (show DevN w3.heap.size w3 h D1 from HD3.out))
      obtain ⟨c1, hc1e⟩ : ∃ c1, c1 = D1.changeE := ⟨_, rfl⟩
      have HC1E := Lib.hid hc1e
      rw [← hc1e] at HFL hce1
      clear hc1e
      go_wp2_with fail
      refine HFL.out.mono ?_
      rintro e w4 ⟨rfl, hd4, hc4⟩
      have HX4 := Lib.hid (HX3.out.chg hc4 (fun hf => (show DevN w3.heap.size w3 h D1 from HD3.out).not_foot HX3.out (by decide) (by decide) hf))
      have HR4 := Lib.hid (HR3.out.chg hc4 (fun hf => (show DevN w3.heap.size w3 h D1 from HD3.out).not_foot HR3.out (by decide) (by decide) hf))
      have HB4 := Lib.hid (HB3.out.chg hc4 (fun hf => (show DevN w3.heap.size w3 h D1 from HD3.out).not_foot HB3.out (by decide) (by decide) hf))
      have HC4 := Lib.hid (HC3.out.trans hc4)
      have HD4 := Lib.hid hd4
      clear hd4 hc4 HFL
      have HSTD : Hid (D.stD ⟨b0, b1, b2, b3, b4, b5, b6⟩ = D1.flush) := by show _ = _; unfold Dev.stD; rw [← HCE.out, if_pos rfl, HDW.out]
      rcases hce1 with rfl | rfl
      · have HSTE : Hid (D.stE ⟨b0, b1, b2, b3, b4, b5, b6⟩ = 0) := by show _ = _; unfold Dev.stE; rw [← HCE.out, if_pos rfl, HDW.out]; exact HC1E.out.symm
        have HSTR : Hid (D.stR ⟨b0, b1, b2, b3, b4, b5, b6⟩ = Sb.norm ⟨q0 + 1, b1, b2, b3, b4, b5, b6⟩) := by show _ = _; unfold Dev.stR; rw [HSTE.out, if_pos rfl, HSB.out]
        have hrd : Rd w4 tU8 (some ⟨gE, 0, none⟩) 64 (bys pb) := by
          have := Rd.ofBlk (k := 64) HB4.out (by simp [bys_length, HPL.out])
          have e : (bys pb).toArray.toList.take 64 = bys pb := List.take_of_length_le (by simp [bys_length, HPL.out])
          rwa [e] at this
        have HDE := Lib.hid (decode_calls (some ⟨gE, 0, none⟩) 64 64 pb w4 hrd (by omega) (by omega))
        rw [HDC.out] at HDE
        obtain ⟨z, hz⟩ : ∃ z, z = Sb.img ⟨q0 + 1, b1, b2, b3, b4, b5, b6⟩ := ⟨_, rfl⟩
        have hnm : Sb.norm ⟨q0 + 1, b1, b2, b3, b4, b5, b6⟩ = ⟨q0 + 1, b1, b2, b3, b4, b5, z⟩ := by unfold Sb.norm; rw [hz]
        rw [hnm] at HDE HSTR
        have ec2 : ((q0 + 1 : Nat) : Int) = (q0 : Int) + 1 := by omega
        simp only [sbD, sbE, Option.getD_some, sbV_eq, ec2] at HDE
        clear hrd hz hnm ec2
        go_wp2_with fail
        refine HDE.out.mono ?_
        rintro e w5 ⟨rfl, hc5⟩
        have HX5 := Lib.hid (HX4.out.chg hc5 (fun h => h))
        have HR5 := Lib.hid (HR4.out.chg hc5 (fun h => h))
        have HC5 : Hid (Chg h.foot w w5) := HC4.out.trans (hc5.mono (fun _ _ h => h.elim))
        have HD5 := Lib.hid ((show DevN w4.heap.size w4 h _ from HD4.out).chgNo hc5).at_
        clear hc5 HDE
        have x0 := HX5.out.cell 0
        have x1 := HX5.out.cell 1
        have x2 := HX5.out.cell 2
        have x3 := HX5.out.cell 3
        have x4 := HX5.out.cell 4
        have x5 := HX5.out.cell 5
        have x6 := HX5.out.cell 6
        have f0 := HX5.out.frozen 0
        have f1 := HX5.out.frozen 1
        have f2 := HX5.out.frozen 2
        have f3 := HX5.out.frozen 3
        have f4 := HX5.out.frozen 4
        have f5 := HX5.out.frozen 5
        have f6 := HX5.out.frozen 6
        simp at x0 x1 x2 x3 x4 x5 x6
        have r0 := HR5.out.cell 0
        have r1 := HR5.out.cell 1
        have r2 := HR5.out.cell 2
        have r3 := HR5.out.cell 3
        have r4 := HR5.out.cell 4
        have r5 := HR5.out.cell 5
        have r6 := HR5.out.cell 6
        have g0 := HR5.out.frozen 0
        have g1 := HR5.out.frozen 1
        have g2 := HR5.out.frozen 2
        have g3 := HR5.out.frozen 3
        have g4 := HR5.out.frozen 4
        have g5 := HR5.out.frozen 5
        have g6 := HR5.out.frozen 6
        simp at r0 r1 r2 r3 r4 r5 r6
        have hst : ∀ a0 a1 a2 a3 a4 a5 a6 b0 b1 b2 b3 b4 b5 b6, Chg h.foot w (set7 (set7 w5 w.heap.size a0 a1 a2 a3 a4 a5 a6) (w.heap.size + 1) b0 b1 b2 b3 b4 b5 b6) ∧ DevAt (set7 (set7 w5 w.heap.size a0 a1 a2 a3 a4 a5 a6) (w.heap.size + 1) b0 b1 b2 b3 b4 b5 b6) h D1.flush := fun a0 a1 a2 a3 a4 a5 a6 b0 b1 b2 b3 b4 b5 b6 => by
          have hs := set7_chg w5 w.heap.size a0 a1 a2 a3 a4 a5 a6
          have hs2 := set7_chg (set7 w5 w.heap.size a0 a1 a2 a3 a4 a5 a6) (w.heap.size + 1) b0 b1 b2 b3 b4 b5 b6
          have hr := HR5.out.chg hs (by show ¬ w.heap.size + 1 = w.heap.size; omega)
          have hd5 := (dev_ty HD5.out hs (fun k hk e => by subst e; exact ⟨_, tSb, (0, 0), HX5.out, by decide, by decide, by decide, by decide⟩)).at_
          exact ⟨(HC5.out.then hs (fun i hi h => by omega)).then hs2 (fun i hi h => by omega), (dev_ty hd5 hs2 (fun k hk e => by subst e; exact ⟨_, tSb, (0, 0), hr, by decide, by decide, by decide, by decide⟩)).at_⟩
        have HST := Lib.hid hst
        clear hst
        go_wp2
        refine bodyPost_ret (v := .tuple #[.agg #[.int .u64 ((q0 : Int) + 1), .int .u64 b1, .int .u64 b2, .int .u64 b3, .int .u64 b4, .bool b5, .int .i64 z], .int .i64 0]) (by simp [results, Tryz.results61, go_sem, r0, r1, r2, r3, r4, r5, r6]) rfl ⟨?_, ?_, (HST.out _ _ _ _ _ _ _ _ _ _ _ _ _ _).1⟩
        · rw [HSTR.out, HSTE.out]
          have ec2 : ((q0 + 1 : Nat) : Int) = (q0 : Int) + 1 := by omega
          simp only [ec2]
        · rw [HSTD.out]; exact (HST.out _ _ _ _ _ _ _ _ _ _ _ _ _ _).2
      · have HSTE : Hid (D.stE ⟨b0, b1, b2, b3, b4, b5, b6⟩ = 4) := by show _ = _; unfold Dev.stE; rw [← HCE.out, if_pos rfl, HDW.out]; exact HC1E.out.symm
        have HSTR : Hid (D.stR ⟨b0, b1, b2, b3, b4, b5, b6⟩ = Sb.zero) := by show _ = _; unfold Dev.stR; rw [HSTE.out, if_neg (by decide)]
        have r0 := HR4.out.cell 0
        have r1 := HR4.out.cell 1
        have r2 := HR4.out.cell 2
        have r3 := HR4.out.cell 3
        have r4 := HR4.out.cell 4
        have r5 := HR4.out.cell 5
        have r6 := HR4.out.cell 6
        have g0 := HR4.out.frozen 0
        have g1 := HR4.out.frozen 1
        have g2 := HR4.out.frozen 2
        have g3 := HR4.out.frozen 3
        have g4 := HR4.out.frozen 4
        have g5 := HR4.out.frozen 5
        have g6 := HR4.out.frozen 6
        simp at r0 r1 r2 r3 r4 r5 r6
        have hst : ∀ b0 b1 b2 b3 b4 b5 b6, Chg h.foot w (set7 w4 (w.heap.size + 1) b0 b1 b2 b3 b4 b5 b6) ∧ DevAt (set7 w4 (w.heap.size + 1) b0 b1 b2 b3 b4 b5 b6) h (D1.flush) := fun b0 b1 b2 b3 b4 b5 b6 => by
          have hs := set7_chg w4 (w.heap.size + 1) b0 b1 b2 b3 b4 b5 b6
          exact ⟨HC4.out.then hs (fun i hi h => by omega), (dev_ty (show DevN w4.heap.size w4 h _ from HD4.out) hs (fun k hk e => by subst e; exact ⟨_, tSb, (0, 0), HR4.out, by decide, by decide, by decide, by decide⟩)).at_⟩
        have HST := Lib.hid hst
        clear hst
        go_wp2
        refine bodyPost_ret (v := .tuple #[sbV Sb.zero, .int .i64 4]) (by simp [results, Tryz.results61, go_sem, sbV, sbc, Sb.zero, r0, r1, r2, r3, r4, r5, r6]) rfl ⟨?_, ?_, (HST.out _ _ _ _ _ _ _).1⟩
        · rw [HSTR.out, HSTE.out]; rfl
        · rw [HSTD.out]; exact (HST.out _ _ _ _ _ _ _).2
    · have HSTE : Hid (D.stE ⟨b0, b1, b2, b3, b4, b5, b6⟩ = 4) := by show _ = _; unfold Dev.stE; rw [← HCE.out, if_neg (by decide)]
      have HSTR : Hid (D.stR ⟨b0, b1, b2, b3, b4, b5, b6⟩ = Sb.zero) := by show _ = _; unfold Dev.stR; rw [HSTE.out, if_neg (by decide)]
      have HSTD : Hid (D.stD ⟨b0, b1, b2, b3, b4, b5, b6⟩ = D1) := by show _ = _; unfold Dev.stD; rw [← HCE.out, if_neg (by decide), HDW.out]
      have r0 := HR3.out.cell 0
      have r1 := HR3.out.cell 1
      have r2 := HR3.out.cell 2
      have r3 := HR3.out.cell 3
      have r4 := HR3.out.cell 4
      have r5 := HR3.out.cell 5
      have r6 := HR3.out.cell 6
      have g0 := HR3.out.frozen 0
      have g1 := HR3.out.frozen 1
      have g2 := HR3.out.frozen 2
      have g3 := HR3.out.frozen 3
      have g4 := HR3.out.frozen 4
      have g5 := HR3.out.frozen 5
      have g6 := HR3.out.frozen 6
      simp at r0 r1 r2 r3 r4 r5 r6
      have hst : ∀ b0 b1 b2 b3 b4 b5 b6, Chg h.foot w (set7 w3 (w.heap.size + 1) b0 b1 b2 b3 b4 b5 b6) ∧ DevAt (set7 w3 (w.heap.size + 1) b0 b1 b2 b3 b4 b5 b6) h (D1) := fun b0 b1 b2 b3 b4 b5 b6 => by
        have hs := set7_chg w3 (w.heap.size + 1) b0 b1 b2 b3 b4 b5 b6
        exact ⟨HC3.out.then hs (fun i hi h => by omega), (dev_ty (show DevN w3.heap.size w3 h _ from HD3.out) hs (fun k hk e => by subst e; exact ⟨_, tSb, (0, 0), HR3.out, by decide, by decide, by decide, by decide⟩)).at_⟩
      have HST := Lib.hid hst
      clear hst
      go_wp2
      refine bodyPost_ret (v := .tuple #[sbV Sb.zero, .int .i64 4]) (by simp [results, Tryz.results61, go_sem, sbV, sbc, Sb.zero, r0, r1, r2, r3, r4, r5, r6]) rfl ⟨?_, ?_, (HST.out _ _ _ _ _ _ _).1⟩
      · rw [HSTR.out, HSTE.out]; rfl
      · rw [HSTD.out]; exact (HST.out _ _ _ _ _ _ _).2
  ·
    go_wp2_with fail
    refine (HEN _).out.mono ?_
    rintro e w2 ⟨gE, rfl, hbE, hgE, hcE⟩
    have hs0 : Blk (w1.setCell ⟨w.heap.size, 0, none⟩ (.int .u64 ((q0 : Int) + 1))) w.heap.size tSb #[.int .u64 ((q0 : Int) + 1), .int .u64 b1, .int .u64 b2, .int .u64 b3, .int .u64 b4, .bool b5, .int .i64 b6] := by
      have := HX.out.set_ 0 (.int .u64 ((q0 : Int) + 1))
      simpa using this
    have hcx : Chg (fun k => k = w.heap.size) w1 (w1.setCell ⟨w.heap.size, 0, none⟩ (.int .u64 ((q0 : Int) + 1))) := chg_setCell w1 ⟨w.heap.size, 0, none⟩ _
    have hdx : DevAt (w1.setCell ⟨w.heap.size, 0, none⟩ (.int .u64 ((q0 : Int) + 1))) h D := (dev_ty HD1.out hcx (fun k hk e => by subst e; exact ⟨_, tSb, (0, 0), HX.out, by decide, by decide, by decide, by decide⟩)).at_
    have HX2 := Lib.hid ((hs0.alloc _).chg hcE (fun h => h))
    have HR2 := Lib.hid (((HR.out.chg hcx (by show ¬ w.heap.size + 1 = w.heap.size; omega)).alloc _).chg hcE (fun h => h))
    have HC2 : Hid (Chg h.foot w w2) := ((HC1.out.then hcx (fun i hi h => by omega)).alloc _).trans (hcE.mono (fun _ _ h => h.elim))
    have HD2 : Hid (DevAt w2 h D) := ((hdx.chgNo (Chg.alloc (Chg.refl No _) _)).chgNo hcE).at_
    have HBE := Lib.hid hbE
    have hrd : Rd w2 tU8 (some ⟨gE, 0, none⟩) 64 (bys pb) := by
      have := Rd.ofBlk (k := 64) hbE (by simp [bys_length, HPL.out])
      have e : (bys pb).toArray.toList.take 64 = bys pb := List.take_of_length_le (by simp [bys_length, HPL.out])
      rwa [e] at this
    have HWR := Lib.hid (write_calls HD2.out (((q0 + 1) % 2 : Nat) : Int) (some ⟨gE, 0, none⟩) 64 64 pb hrd (by omega))
    have y0 := HX2.out.cell 0
    simp at y0
    clear hbE hgE hcE hs0 hcx hdx hrd x0 x1 x2 x3 x4 x5 x6 f0 f1 f2 f3 f4 f5 f6 xlt HX HR HC1 HD1
    have em : (((q0 + 1) % 2 : Nat) : Int) = ((q0 : Int) + 1) % 2 := by omega
    have hwe : D.writeE (((q0 + 1) % 2 : Nat) : Int) pb.length = D.changeE := by
      unfold Dev.writeE
      rw [show D.has (((q0 + 1) % 2 : Nat) : Int) = true from by simp [Dev.has]; have := HN.out; omega, decide_eq_true (by rw [HPL.out]; omega)]
      rfl
    rw [hwe, em] at HWR
    rw [em] at HDW
    clear hwe em
    obtain ⟨D1, hD1⟩ : ∃ D1, D1 = D.write (((q0 : Int) + 1) % 2) pb := ⟨_, rfl⟩
    rw [← hD1] at HWR HDW
    clear hD1
    have hce := changeE_in D
    obtain ⟨ce, hcee⟩ : ∃ ce, ce = D.changeE := ⟨_, rfl⟩
    have HCE := Lib.hid hcee
    rw [← hcee] at HWR hce
    clear hcee
    go_wp2_with fail
    refine HWR.out.mono ?_
    rintro e w3 ⟨rfl, hd3, hc3⟩
    have HX3 := Lib.hid (HX2.out.chg hc3 (fun hf => HD2.out.not_foot HX2.out (by decide) (by decide) hf))
    have HR3 := Lib.hid (HR2.out.chg hc3 (fun hf => HD2.out.not_foot HR2.out (by decide) (by decide) hf))
    have HB3 := Lib.hid (HBE.out.chg hc3 (fun hf => HD2.out.not_foot HBE.out (by decide) (by decide) hf))
    have HC3 := Lib.hid (HC2.out.trans hc3)
    have HD3 := Lib.hid hd3
    clear hd3 hc3 HWR
    rcases hce with rfl | rfl
    · have hce1 := changeE_in D1
      have HFL := Lib.hid (flush_calls (show DevN w3.heap.size w3 h D1 from HD3.out))
      obtain ⟨c1, hc1e⟩ : ∃ c1, c1 = D1.changeE := ⟨_, rfl⟩
      have HC1E := Lib.hid hc1e
      rw [← hc1e] at HFL hce1
      clear hc1e
      go_wp2_with fail
      refine HFL.out.mono ?_
      rintro e w4 ⟨rfl, hd4, hc4⟩
      have HX4 := Lib.hid (HX3.out.chg hc4 (fun hf => (show DevN w3.heap.size w3 h D1 from HD3.out).not_foot HX3.out (by decide) (by decide) hf))
      have HR4 := Lib.hid (HR3.out.chg hc4 (fun hf => (show DevN w3.heap.size w3 h D1 from HD3.out).not_foot HR3.out (by decide) (by decide) hf))
      have HB4 := Lib.hid (HB3.out.chg hc4 (fun hf => (show DevN w3.heap.size w3 h D1 from HD3.out).not_foot HB3.out (by decide) (by decide) hf))
      have HC4 := Lib.hid (HC3.out.trans hc4)
      have HD4 := Lib.hid hd4
      clear hd4 hc4 HFL
      have HSTD : Hid (D.stD ⟨b0, b1, b2, b3, b4, b5, b6⟩ = D1.flush) := by show _ = _; unfold Dev.stD; rw [← HCE.out, if_pos rfl, HDW.out]
      rcases hce1 with rfl | rfl
      · have HSTE : Hid (D.stE ⟨b0, b1, b2, b3, b4, b5, b6⟩ = 0) := by show _ = _; unfold Dev.stE; rw [← HCE.out, if_pos rfl, HDW.out]; exact HC1E.out.symm
        have HSTR : Hid (D.stR ⟨b0, b1, b2, b3, b4, b5, b6⟩ = Sb.norm ⟨q0 + 1, b1, b2, b3, b4, b5, b6⟩) := by show _ = _; unfold Dev.stR; rw [HSTE.out, if_pos rfl, HSB.out]
        have hrd : Rd w4 tU8 (some ⟨gE, 0, none⟩) 64 (bys pb) := by
          have := Rd.ofBlk (k := 64) HB4.out (by simp [bys_length, HPL.out])
          have e : (bys pb).toArray.toList.take 64 = bys pb := List.take_of_length_le (by simp [bys_length, HPL.out])
          rwa [e] at this
        have HDE := Lib.hid (decode_calls (some ⟨gE, 0, none⟩) 64 64 pb w4 hrd (by omega) (by omega))
        rw [HDC.out] at HDE
        obtain ⟨z, hz⟩ : ∃ z, z = Sb.img ⟨q0 + 1, b1, b2, b3, b4, b5, b6⟩ := ⟨_, rfl⟩
        have hnm : Sb.norm ⟨q0 + 1, b1, b2, b3, b4, b5, b6⟩ = ⟨q0 + 1, b1, b2, b3, b4, b5, z⟩ := by unfold Sb.norm; rw [hz]
        rw [hnm] at HDE HSTR
        have ec2 : ((q0 + 1 : Nat) : Int) = (q0 : Int) + 1 := by omega
        simp only [sbD, sbE, Option.getD_some, sbV_eq, ec2] at HDE
        clear hrd hz hnm ec2
        go_wp2_with fail
        refine HDE.out.mono ?_
        rintro e w5 ⟨rfl, hc5⟩
        have HX5 := Lib.hid (HX4.out.chg hc5 (fun h => h))
        have HR5 := Lib.hid (HR4.out.chg hc5 (fun h => h))
        have HC5 : Hid (Chg h.foot w w5) := HC4.out.trans (hc5.mono (fun _ _ h => h.elim))
        have HD5 := Lib.hid ((show DevN w4.heap.size w4 h _ from HD4.out).chgNo hc5).at_
        clear hc5 HDE
        have x0 := HX5.out.cell 0
        have x1 := HX5.out.cell 1
        have x2 := HX5.out.cell 2
        have x3 := HX5.out.cell 3
        have x4 := HX5.out.cell 4
        have x5 := HX5.out.cell 5
        have x6 := HX5.out.cell 6
        have f0 := HX5.out.frozen 0
        have f1 := HX5.out.frozen 1
        have f2 := HX5.out.frozen 2
        have f3 := HX5.out.frozen 3
        have f4 := HX5.out.frozen 4
        have f5 := HX5.out.frozen 5
        have f6 := HX5.out.frozen 6
        simp at x0 x1 x2 x3 x4 x5 x6
        have r0 := HR5.out.cell 0
        have r1 := HR5.out.cell 1
        have r2 := HR5.out.cell 2
        have r3 := HR5.out.cell 3
        have r4 := HR5.out.cell 4
        have r5 := HR5.out.cell 5
        have r6 := HR5.out.cell 6
        have g0 := HR5.out.frozen 0
        have g1 := HR5.out.frozen 1
        have g2 := HR5.out.frozen 2
        have g3 := HR5.out.frozen 3
        have g4 := HR5.out.frozen 4
        have g5 := HR5.out.frozen 5
        have g6 := HR5.out.frozen 6
        simp at r0 r1 r2 r3 r4 r5 r6
        have hst : ∀ a0 a1 a2 a3 a4 a5 a6 b0 b1 b2 b3 b4 b5 b6, Chg h.foot w (set7 (set7 w5 w.heap.size a0 a1 a2 a3 a4 a5 a6) (w.heap.size + 1) b0 b1 b2 b3 b4 b5 b6) ∧ DevAt (set7 (set7 w5 w.heap.size a0 a1 a2 a3 a4 a5 a6) (w.heap.size + 1) b0 b1 b2 b3 b4 b5 b6) h D1.flush := fun a0 a1 a2 a3 a4 a5 a6 b0 b1 b2 b3 b4 b5 b6 => by
          have hs := set7_chg w5 w.heap.size a0 a1 a2 a3 a4 a5 a6
          have hs2 := set7_chg (set7 w5 w.heap.size a0 a1 a2 a3 a4 a5 a6) (w.heap.size + 1) b0 b1 b2 b3 b4 b5 b6
          have hr := HR5.out.chg hs (by show ¬ w.heap.size + 1 = w.heap.size; omega)
          have hd5 := (dev_ty HD5.out hs (fun k hk e => by subst e; exact ⟨_, tSb, (0, 0), HX5.out, by decide, by decide, by decide, by decide⟩)).at_
          exact ⟨(HC5.out.then hs (fun i hi h => by omega)).then hs2 (fun i hi h => by omega), (dev_ty hd5 hs2 (fun k hk e => by subst e; exact ⟨_, tSb, (0, 0), hr, by decide, by decide, by decide, by decide⟩)).at_⟩
        have HST := Lib.hid hst
        clear hst
        go_wp2
        refine bodyPost_ret (v := .tuple #[.agg #[.int .u64 ((q0 : Int) + 1), .int .u64 b1, .int .u64 b2, .int .u64 b3, .int .u64 b4, .bool b5, .int .i64 z], .int .i64 0]) (by simp [results, Tryz.results61, go_sem, r0, r1, r2, r3, r4, r5, r6]) rfl ⟨?_, ?_, (HST.out _ _ _ _ _ _ _ _ _ _ _ _ _ _).1⟩
        · rw [HSTR.out, HSTE.out]
          have ec2 : ((q0 + 1 : Nat) : Int) = (q0 : Int) + 1 := by omega
          simp only [ec2]
        · rw [HSTD.out]; exact (HST.out _ _ _ _ _ _ _ _ _ _ _ _ _ _).2
      · have HSTE : Hid (D.stE ⟨b0, b1, b2, b3, b4, b5, b6⟩ = 4) := by show _ = _; unfold Dev.stE; rw [← HCE.out, if_pos rfl, HDW.out]; exact HC1E.out.symm
        have HSTR : Hid (D.stR ⟨b0, b1, b2, b3, b4, b5, b6⟩ = Sb.zero) := by show _ = _; unfold Dev.stR; rw [HSTE.out, if_neg (by decide)]
        have r0 := HR4.out.cell 0
        have r1 := HR4.out.cell 1
        have r2 := HR4.out.cell 2
        have r3 := HR4.out.cell 3
        have r4 := HR4.out.cell 4
        have r5 := HR4.out.cell 5
        have r6 := HR4.out.cell 6
        have g0 := HR4.out.frozen 0
        have g1 := HR4.out.frozen 1
        have g2 := HR4.out.frozen 2
        have g3 := HR4.out.frozen 3
        have g4 := HR4.out.frozen 4
        have g5 := HR4.out.frozen 5
        have g6 := HR4.out.frozen 6
        simp at r0 r1 r2 r3 r4 r5 r6
        have hst : ∀ b0 b1 b2 b3 b4 b5 b6, Chg h.foot w (set7 w4 (w.heap.size + 1) b0 b1 b2 b3 b4 b5 b6) ∧ DevAt (set7 w4 (w.heap.size + 1) b0 b1 b2 b3 b4 b5 b6) h (D1.flush) := fun b0 b1 b2 b3 b4 b5 b6 => by
          have hs := set7_chg w4 (w.heap.size + 1) b0 b1 b2 b3 b4 b5 b6
          exact ⟨HC4.out.then hs (fun i hi h => by omega), (dev_ty (show DevN w4.heap.size w4 h _ from HD4.out) hs (fun k hk e => by subst e; exact ⟨_, tSb, (0, 0), HR4.out, by decide, by decide, by decide, by decide⟩)).at_⟩
        have HST := Lib.hid hst
        clear hst
        go_wp2
        refine bodyPost_ret (v := .tuple #[sbV Sb.zero, .int .i64 4]) (by simp [results, Tryz.results61, go_sem, sbV, sbc, Sb.zero, r0, r1, r2, r3, r4, r5, r6]) rfl ⟨?_, ?_, (HST.out _ _ _ _ _ _ _).1⟩
        · rw [HSTR.out, HSTE.out]; rfl
        · rw [HSTD.out]; exact (HST.out _ _ _ _ _ _ _).2
    · have HSTE : Hid (D.stE ⟨b0, b1, b2, b3, b4, b5, b6⟩ = 4) := by show _ = _; unfold Dev.stE; rw [← HCE.out, if_neg (by decide)]
      have HSTR : Hid (D.stR ⟨b0, b1, b2, b3, b4, b5, b6⟩ = Sb.zero) := by show _ = _; unfold Dev.stR; rw [HSTE.out, if_neg (by decide)]
      have HSTD : Hid (D.stD ⟨b0, b1, b2, b3, b4, b5, b6⟩ = D1) := by show _ = _; unfold Dev.stD; rw [← HCE.out, if_neg (by decide), HDW.out]
      have r0 := HR3.out.cell 0
      have r1 := HR3.out.cell 1
      have r2 := HR3.out.cell 2
      have r3 := HR3.out.cell 3
      have r4 := HR3.out.cell 4
      have r5 := HR3.out.cell 5
      have r6 := HR3.out.cell 6
      have g0 := HR3.out.frozen 0
      have g1 := HR3.out.frozen 1
      have g2 := HR3.out.frozen 2
      have g3 := HR3.out.frozen 3
      have g4 := HR3.out.frozen 4
      have g5 := HR3.out.frozen 5
      have g6 := HR3.out.frozen 6
      simp at r0 r1 r2 r3 r4 r5 r6
      have hst : ∀ b0 b1 b2 b3 b4 b5 b6, Chg h.foot w (set7 w3 (w.heap.size + 1) b0 b1 b2 b3 b4 b5 b6) ∧ DevAt (set7 w3 (w.heap.size + 1) b0 b1 b2 b3 b4 b5 b6) h (D1) := fun b0 b1 b2 b3 b4 b5 b6 => by
        have hs := set7_chg w3 (w.heap.size + 1) b0 b1 b2 b3 b4 b5 b6
        exact ⟨HC3.out.then hs (fun i hi h => by omega), (dev_ty (show DevN w3.heap.size w3 h _ from HD3.out) hs (fun k hk e => by subst e; exact ⟨_, tSb, (0, 0), HR3.out, by decide, by decide, by decide, by decide⟩)).at_⟩
      have HST := Lib.hid hst
      clear hst
      go_wp2
      refine bodyPost_ret (v := .tuple #[sbV Sb.zero, .int .i64 4]) (by simp [results, Tryz.results61, go_sem, sbV, sbc, Sb.zero, r0, r1, r2, r3, r4, r5, r6]) rfl ⟨?_, ?_, (HST.out _ _ _ _ _ _ _).1⟩
      · rw [HSTR.out, HSTE.out]; rfl
      · rw [HSTD.out]; exact (HST.out _ _ _ _ _ _ _).2
end Go.Proofs.YtplpbbdakihnfaaGreat
end

section
namespace Go.Proofs.YtplpbbdakihnfaaGreat
open Go.RowKit
def Sto.may (B : Sto) (key : ByteArray) : Bool := fmay (B.fs.getD (B.no key) []) (places 256 3 key.data.toList)
theorem Sto.no_lt (B : Sto) (hp : 0 < B.fs.length) (key : ByteArray) : B.no key < B.fs.length := Nat.mod_lt _ hp
theorem StoAt.at_ {w : World} {h : DevH} {t : StoH} {B : Sto} (hs : StoAt w h t B) {i : Nat} (hi : i < B.fs.length) :
    ∃ p q, t.ps[i]? = some (p, q) ∧ w.cell? ⟨t.G, i, none⟩ = some (.pointer (some ⟨p, 0, none⟩)) ∧ Flt w p q (B.fs.getD i []) := by
  have hl : i < t.ps.length := by rw [hs.len]; exact hi
  obtain ⟨cur, hg, hc⟩ := hs.row
  refine ⟨t.ps[i].1, t.ps[i].2, List.getElem?_eq_getElem hl, ?_, ?_⟩
  · rw [hg.cell]
    exact hc i _ (List.getElem?_eq_getElem hl)
  · refine hs.flt i _ _ (List.getElem?_eq_getElem hl) ?_
    rw [List.getD_eq_getElem?_getD, List.getElem?_eq_getElem hi]; rfl
set_option maxRecDepth 100000 in
theorem smay_calls {w : World} {h : DevH} {t : StoH} {B : Sto} (hs : StoAt w h t B) (hp : 0 < B.fs.length) (key : ByteArray) (hk : key.size ≤ 140737488351232) :
    Calls Tryz.prog 46 #[.pointer (some ⟨t.s, 0, none⟩), .string key] w fun e w' => e = .returned (.bool (B.may key)) ∧ Chg No w w' := by
  have HOF := fun W => Lib.hid (fun hc : Chg No w W => of_calls (hs.chgNo hc) hp key hk)
  have hlt := B.no_lt hp key
  obtain ⟨p, q, hps, cg, hf⟩ := hs.at_ hlt
  have HMB : Hid (B.may key = fmay (B.fs.getD (B.no key) []) (places 256 3 key.data.toList)) := rfl
  have c3 := hs.box.cell 3
  simp at c3
  have hl := hs.box.lt
  obtain ⟨cur, hcur, _⟩ := hs.row
  have hG := hcur.lt
  obtain ⟨i, hi⟩ : ∃ i, i = B.no key := ⟨_, rfl⟩
  obtain ⟨n, hn⟩ : ∃ n, n = B.fs.length := ⟨_, rfl⟩
  rw [← hi] at HOF hlt cg hf HMB
  rw [← hn] at hlt c3
  have HMY := fun W => Lib.hid (fun hc : Chg No w W => bmay_calls p q _ key W (hf.chg hc (fun h => h) (fun h => h)) hk)
  rw [← HMB.out] at HMY
  have HK3 := fun W => Lib.hid (fun hc : Chg No w W => (hs.chgNo hc).box.cell 3)
  rw [← hn] at HK3
  have HKG := fun W => Lib.hid (fun hc : Chg No w W => (hcur.chg hc (fun h => h)).cell i)
  have HCI : Hid (cur[i]? = some (.pointer (some ⟨p, 0, none⟩))) := by rw [← hcur.cell]; exact cg
  clear hs hp hcur hf hi hn hps
  go_enter Tryz.func46, Tryz.ntmps46
  go_wp2_with fail
  go_region_held3 (fun w' => w'.cell? ⟨t.s, 3, none⟩ = some (.slice (some ⟨t.G, 0, none⟩) n t.cap) ∧ w'.cell? ⟨t.G, i, none⟩ = some (.pointer (some ⟨p, 0, none⟩))) (first | go_keep)
    ((first
      | (go_at_call 71
         refine ((HOF _).out (by (repeat (first | (with_reducible exact Chg.refl _ _) | (with_reducible assumption) | (with_reducible refine Chg.drewN ?_ _) | (with_reducible refine Chg.drew ?_) | (with_reducible refine Chg.alloc ?_ _) | (with_reducible refine Chg.setCell ?_ (by first | (left; simp [DevH.foot]; done) | (right; simp; done) | (right; simp; omega)) _))))).mono ?_
         rintro e w1 ⟨rfl, hc1⟩
         have HC1 : Hid (Chg No w w1) := ((by (repeat (first | (with_reducible exact Chg.refl _ _) | (with_reducible assumption) | (with_reducible refine Chg.drewN ?_ _) | (with_reducible refine Chg.drew ?_) | (with_reducible refine Chg.alloc ?_ _) | (with_reducible refine Chg.setCell ?_ (by first | (left; simp [DevH.foot]; done) | (right; simp; done) | (right; simp; omega)) _))) : Chg No w _).trans hc1)
         clear hc1
         have c31 := (HK3 _).out HC1.out
         have cg1 := (HKG _).out HC1.out
         rw [HCI.out] at cg1
         simp at c31)
      | (go_at_call 76
         refine ((HMY _).out (by first | exact HC1.out.drewN _ | exact HC1.out | exact HC1.out.drew)).mono ?_
         rintro e w2 ⟨rfl, hc2⟩
         have HC2 : Hid (Chg No w w2) := ((by first | exact HC1.out.drewN _ | exact HC1.out | exact HC1.out.drew : Chg No w _).trans hc2)
         clear hc2
         have c32 := (HK3 _).out HC2.out
         have cg2 := (HKG _).out HC2.out
         rw [HCI.out] at cg2
         simp at c32)))
  all_goals
    go_wp2
    go_ret
    exact ⟨rfl, HC2.out⟩
def Sto.get (B : Sto) (D : Dev) (key : ByteArray) : Item × Int :=
  if B.may key then (if B.lE D (B.no key) = 0 then (match (B.lL D (B.no key)).find? (keyed key) with | some x => (x, 0) | none => (Item.zero, 5)) else (Item.zero, B.lE D (B.no key))) else (Item.zero, 5)
theorem devN_new {N : Nat} {w w2 w3 : World} {h : DevH} {D D' : Dev} (h0 : DevN N w h D) (hd : DevN N w2 h D') (h2 : Chg h.foot w w2) (hc : Chg (fun k => w.heap.size ≤ k) w2 w3) : DevN N w3 h D' ∧ Chg h.foot w w3 := by
  obtain ⟨a, b, c, e, hb⟩ := h0.box
  obtain ⟨ps, hb2, _⟩ := h0.row
  obtain ⟨es, hb3, _⟩ := h0.map
  have h1 := hb.lt
  have h2' := hb2.lt
  have h3 := hb3.lt
  have h4 := h0.below
  refine ⟨hd.chg hc (by omega) (by omega) (by omega) (fun g _ _ hg _ _ => by omega), h2.then hc (fun i hi hT => ?_)⟩
  omega
abbrev zrow : Array Value := #[.string ⟨#[]⟩, .string ⟨#[]⟩, .int .u32 0, .int .i64 0, .int .u64 0]
theorem lst_le {k : Nat} : ∀ {b : List UInt8} {l : List Item}, lst k b = some l → l.length * 33 ≤ b.length := by
  induction k with
  | zero => intro b l h; cases h
  | succ k ih =>
    intro b l h
    rw [lst] at h
    cases ht : take b with
    | none => rw [ht] at h; simp at h; subst h; simp
    | bad => rw [ht] at h; cases h
    | ok x n =>
      rw [ht] at h
      have h1 := take_ok_len ht
      simp only [Option.map_eq_some_iff] at h
      obtain ⟨r, hr, rfl⟩ := h
      have h2 := ih hr
      rw [List.length_drop] at h2
      simp only [List.length_cons]
      omega
theorem lL_le {N : Nat} {w : World} {h : DevH} {D : Dev} (hd : DevN N w h D) (B : Sto) (i : Int) : (B.lL D i).length ≤ 12 := by
  unfold Sto.lL
  split
  · have h1 := read_le hd (B.first + i)
    unfold listL
    cases hl : listOf (D.read (B.first + i)) with
    | none => simp
    | some l =>
      have := lst_le (k := (D.read (B.first + i)).length + 1) hl
      simp only [Option.getD_some]
      omega
  · simp
set_option maxRecDepth 100000 in
theorem get_calls {N : Nat} {w : World} {h : DevH} {D : Dev} {t : StoH} {B : Sto} (hd : DevN N w h D) (hs : StoAt w h t B) (hp : 0 < B.fs.length) (key : ByteArray) (hk : key.size ≤ 140737488351232) :
    Calls Tryz.prog 49 #[.pointer (some ⟨t.s, 0, none⟩), .string key] w fun e w' => e = .returned (.tuple #[itemV (B.get D key).1, .int .i64 (B.get D key).2]) ∧ DevN N w' h D ∧ Chg h.foot w w' := by
  have HM := fun W => Lib.hid (fun hc : Chg No w W => smay_calls (hs.chgNo hc) hp key hk)
  have HOF := fun W => Lib.hid (fun hc : Chg No w W => of_calls (hs.chgNo hc) hp key hk)
  have hlt := B.no_lt hp key
  have hmost := hs.most
  obtain ⟨i, hi⟩ : ∃ i, i = B.no key := ⟨_, rfl⟩
  rw [← hi] at HOF hlt
  have HL := fun W => Lib.hid (fun hc : Chg No w W => blist_calls (hd.chgNo hc) (hs.chgNo hc) i (by omega))
  have HI := Lib.hid hi
  have HD := Lib.hid hd
  have HS := Lib.hid hs
  have hll := lL_le hd B i
  clear hi hd hs hlt
  cases hm : B.may key with
  | false =>
    have HG : Hid (B.get D key = (Item.zero, 5)) := by show _ = _; unfold Sto.get; rw [hm]; rfl
    rw [hm] at HM
    clear hm
    go_enter Tryz.func49, Tryz.ntmps49
    go_wp2_with fail
    refine ((HM _).out (by (repeat (first | (with_reducible exact Chg.refl _ _) | (with_reducible assumption) | (with_reducible refine Chg.drewN ?_ _) | (with_reducible refine Chg.drew ?_) | (with_reducible refine Chg.alloc ?_ _) | (with_reducible refine Chg.setCell ?_ (by first | (left; simp [DevH.foot]; done) | (right; simp; done) | (right; simp; omega)) _))))).mono ?_
    rintro e w1 ⟨rfl, hc1⟩
    have HC1 : Hid (Chg No w w1) := ((Chg.refl No w).alloc _).trans hc1
    have HZ := Lib.hid ((Blk.new w 39 zrow).chg hc1 (fun h => h))
    clear hc1
    (have z0 := HZ.out.cell 0; have z1 := HZ.out.cell 1; have z2 := HZ.out.cell 2; have z3 := HZ.out.cell 3; have z4 := HZ.out.cell 4; have f0 := HZ.out.frozen 0; have f1 := HZ.out.frozen 1; have f2 := HZ.out.frozen 2; have f3 := HZ.out.frozen 3; have f4 := HZ.out.frozen 4; simp at z0 z1 z2 z3 z4)
    go_wp2
    refine bodyPost_ret (v := .tuple #[itemV Item.zero, .int .i64 5]) (by (simp [results, Tryz.results49, go_sem, z0, z1, z2, z3, z4]; try exact ⟨rfl, rfl, rfl, rfl, rfl⟩)) rfl ⟨?_, ?_⟩
    · rw [HG.out]
    · have hcw1 := HC1.out
      exact ⟨HD.out.chgNo (by (repeat (first | (with_reducible exact Chg.refl _ _) | (with_reducible assumption) | (with_reducible refine Chg.drewN ?_ _) | (with_reducible refine Chg.drew ?_) | (with_reducible refine Chg.alloc ?_ _) | (with_reducible refine Chg.setCell ?_ (by first | (left; simp [DevH.foot]; done) | (right; simp; done) | (right; simp; omega)) _)))), (by (repeat (first | (with_reducible exact Chg.refl _ _) | (with_reducible assumption) | (with_reducible refine Chg.drewN ?_ _) | (with_reducible refine Chg.drew ?_) | (with_reducible refine Chg.alloc ?_ _) | (with_reducible refine Chg.setCell ?_ (by first | (left; simp [DevH.foot]; done) | (right; simp; done) | (right; simp; omega)) _))) : Chg No w _).mono (fun _ _ h => h.elim)⟩
  | true =>
    rw [hm] at HM
    have HMM := Lib.hid hm
    clear hm
    have hfoot : ¬ h.foot w.heap.size := by
      obtain ⟨a, b, c, e, hb⟩ := HD.out.box
      obtain ⟨ps, hb2, _⟩ := HD.out.row
      obtain ⟨es, hb3, _⟩ := HD.out.map
      have := hb.lt
      have := hb2.lt
      have := hb3.lt
      rintro (h | h | h) <;> omega
    have HFT := Lib.hid hfoot
    clear hfoot
    go_enter Tryz.func49, Tryz.ntmps49
    go_wp2_with fail
    refine ((HM _).out (by (repeat (first | (with_reducible exact Chg.refl _ _) | (with_reducible assumption) | (with_reducible refine Chg.drewN ?_ _) | (with_reducible refine Chg.drew ?_) | (with_reducible refine Chg.alloc ?_ _) | (with_reducible refine Chg.setCell ?_ (by first | (left; simp [DevH.foot]; done) | (right; simp; done) | (right; simp; omega)) _))))).mono ?_
    rintro e w1 ⟨rfl, hc1⟩
    have HC1 : Hid (Chg No w w1) := ((Chg.refl No w).alloc _).trans hc1
    have HZ1 := Lib.hid ((Blk.new w 39 zrow).chg hc1 (fun h => h))
    clear hc1 HM
    go_wp2_with fail
    refine ((HOF _).out HC1.out).mono ?_
    rintro e w2 ⟨rfl, hc2⟩
    have HC2 : Hid (Chg No w w2) := HC1.out.trans hc2
    have HZ2 := Lib.hid (HZ1.out.chg hc2 (fun h => h))
    clear hc2 HC1 HZ1 HOF
    go_wp2_with fail
    refine ((HL _).out HC2.out).mono ?_
    rintro e w3 ⟨v, rfl, ho3, hd3, hc3⟩
    have HC3 : Hid (Chg h.foot w w3) := HC2.out.mono (fun _ _ h => h.elim) |>.trans hc3
    have HZ := Lib.hid (HZ2.out.chg hc3 HFT.out)
    have HD3 := Lib.hid hd3
    have hw3 : w.heap.size < w3.heap.size := HZ.out.lt
    obtain ⟨l, hl⟩ : ∃ l, l = B.lL D i := ⟨_, rfl⟩
    obtain ⟨z, hz⟩ : ∃ z, z = B.lE D i := ⟨_, rfl⟩
    rw [← hl] at ho3 hll
    rw [← hz]
    have HGG : Hid (B.get D key = if z = 0 then (match l.find? (keyed key) with | some x => (x, 0) | none => (Item.zero, 5)) else (Item.zero, z)) := by
      show _ = _
      unfold Sto.get
      rw [HMM.out, if_pos rfl, ← HI.out, ← hl, ← hz]
    have HO3 := Lib.hid ho3
    clear ho3 hd3 hc3 hl hz HC2 HZ2 HL
    by_cases hz : z = 0
    · subst hz
      have HG2 : Hid (B.get D key = (match l.find? (keyed key) with | some x => (x, 0) | none => (Item.zero, 5))) := by
        show _ = _
        rw [HGG.out]; rfl
      clear HGG
      obtain ⟨A, c, rfl, hnc, hrd⟩ := own_slice HO3.out
      have HRD := Lib.hid hrd
      clear hrd
      go_wp2
      go_loopg [29] l.length (fun g v29 wr => ∃ k : Nat, v29 = .int .i64 k ∧ k ≤ l.length ∧ g = l.length - k ∧ Hid (Chg No w3 wr ∧ ∀ x ∈ l.take k, keyed key x = false))
      case atStart => exact ⟨0, rfl, by omega, rfl, ⟨Chg.refl _ _, by simp⟩⟩
      case round =>
        obtain ⟨k, rfl, hk, rfl, H⟩ := hrel
        have HZ4 := Lib.hid (HZ.out.chg H.out.1 (fun h => h))
        have hcwr : Chg (fun k => w.heap.size ≤ k) w3 wr := H.out.1.mono (fun _ _ h => h.elim)
        have HCW := Lib.hid hcwr
        have hw4 : w.heap.size < wr.heap.size := HZ4.out.lt
        clear HZ hcwr
        by_cases h0 : k < l.length
        · obtain ⟨x, hx⟩ : ∃ x, l[k]? = some x := ⟨_, List.getElem?_eq_getElem h0⟩
          have hr1 := HRD.out.chg H.out.1 (fun _ _ _ _ h => h)
          obtain ⟨g, off, rfl, hg, hc⟩ := hr1.at_ (j := k * 5) (by omega)
          have c0 := hc (k * 5 + 0) _ (its_get l k 0 x hx (by omega))
          have c1 := hc (k * 5 + 1) _ (its_get l k 1 x hx (by omega))
          have c2 := hc (k * 5 + 2) _ (its_get l k 2 x hx (by omega))
          have c3 := hc (k * 5 + 3) _ (its_get l k 3 x hx (by omega))
          have c4 := hc (k * 5 + 4) _ (its_get l k 4 x hx (by omega))
          simp only [itc, List.getElem_cons_zero, List.getElem_cons_succ, ← Nat.add_assoc, Nat.add_zero] at c0 c1 c2 c3 c4
          have HX := Lib.hid hx
          have hse := str_eq x.key key
          have HZ := HZ4
          clear hx hr1 hc
          cases hb : keyed key x with
          | true =>
            unfold keyed at hb
            rw [hb] at hse
            have HB := Lib.hid hb
            clear hb
            (have z0 := HZ.out.cell 0; have z1 := HZ.out.cell 1; have z2 := HZ.out.cell 2; have z3 := HZ.out.cell 3; have z4 := HZ.out.cell 4; have f0 := HZ.out.frozen 0; have f1 := HZ.out.frozen 1; have f2 := HZ.out.frozen 2; have f3 := HZ.out.frozen 3; have f4 := HZ.out.frozen 4; simp at z0 z1 z2 z3 z4)
            go_wp2
            have hfind : l.find? (keyed key) = some x := by
              rw [← List.take_append_drop k l, List.find?_append, List.find?_eq_none.2 (by intro y hy; simp [H.out.2 y hy]), List.drop_eq_getElem_cons h0]
              have : l[k] = x := by have := HX.out; rw [List.getElem?_eq_getElem h0] at this; injection this
              rw [this]
              simp [keyed, HB.out]
            have hb5 := (((((HZ4.out.set_ 0 (.string x.key)).set_ 1 (.string x.val)).set_ 2 (.int .u32 x.flags.toNat)).set_ 3 (.int .i64 x.exp.toInt)).set_ 4 (.int .u64 x.ver.toNat)).alloc (.cells #[.string x.key, .string x.val, .int .u32 x.flags.toNat, .int .i64 x.exp.toInt, .int .u64 x.ver.toNat] 39)
            have g0 := (hb5.cell 0).trans (rfl : _ = some (Value.string x.key))
            have g1 := (hb5.cell 1).trans (rfl : _ = some (Value.string x.val))
            have g2 := (hb5.cell 2).trans (rfl : _ = some (Value.int .u32 x.flags.toNat))
            have g3 := (hb5.cell 3).trans (rfl : _ = some (Value.int .i64 x.exp.toInt))
            have g4 := (hb5.cell 4).trans (rfl : _ = some (Value.int .u64 x.ver.toNat))
            clear hb5
            refine bodyPost_ret (v := .tuple #[itemV x, .int .i64 0]) (by simp [results, Tryz.results49, go_sem, g0, g1, g2, g3, g4]) rfl ⟨?_, ?_⟩
            · rw [HG2.out, hfind]
            · refine devN_new HD.out HD3.out HC3.out ?_
              have := HCW.out
              (repeat (first | (with_reducible exact Chg.refl _ _) | (with_reducible assumption) | (with_reducible refine Chg.drewN ?_ _) | (with_reducible refine Chg.drew ?_) | (with_reducible refine Chg.alloc ?_ _) | (with_reducible refine Chg.setCell ?_ (by first | (left; simp [DevH.foot]; done) | (right; simp; done) | (right; simp; omega)) _)))
          | false =>
            unfold keyed at hb
            rw [hb] at hse
            have HB := Lib.hid hb
            clear hb HZ
            go_wp2
            go_roundg (l.length - (k + 1))
            case measure => omega
            case rel =>
              refine ⟨k + 1, rfl, by omega, rfl, H.out.1.alloc _, ?_⟩
              intro y hy
              rw [List.take_add_one, HX.out] at hy
              rcases List.mem_append.1 hy with hy | hy
              · exact H.out.2 y hy
              · simp at hy
                rw [hy]; exact HB.out
        · have e3 : k = l.length := by omega
          have HZ := HZ4
          have hno := H.out.2
          rw [e3, List.take_length] at hno
          have HNO := Lib.hid hno
          clear HZ4 H hno
          (have z0 := HZ.out.cell 0; have z1 := HZ.out.cell 1; have z2 := HZ.out.cell 2; have z3 := HZ.out.cell 3; have z4 := HZ.out.cell 4; have f0 := HZ.out.frozen 0; have f1 := HZ.out.frozen 1; have f2 := HZ.out.frozen 2; have f3 := HZ.out.frozen 3; have f4 := HZ.out.frozen 4; simp at z0 z1 z2 z3 z4)
          go_wp2
          have hfind : l.find? (keyed key) = none := List.find?_eq_none.2 (by intro y hy; simp [HNO.out y hy])
          refine bodyPost_ret (v := .tuple #[itemV Item.zero, .int .i64 5]) (by (simp [results, Tryz.results49, go_sem, z0, z1, z2, z3, z4]; try exact ⟨rfl, rfl, rfl, rfl, rfl⟩)) rfl ⟨?_, ?_⟩
          · rw [HG2.out, hfind]
          · refine devN_new HD.out HD3.out HC3.out ?_
            have := HCW.out
            (repeat (first | (with_reducible exact Chg.refl _ _) | (with_reducible assumption) | (with_reducible refine Chg.drewN ?_ _) | (with_reducible refine Chg.drew ?_) | (with_reducible refine Chg.alloc ?_ _) | (with_reducible refine Chg.setCell ?_ (by first | (left; simp [DevH.foot]; done) | (right; simp; done) | (right; simp; omega)) _)))
    · have HG2 : Hid (B.get D key = (Item.zero, z)) := by
        show _ = _
        rw [HGG.out, if_neg hz]
      have hzb : (z != 0) = true := by simp [hz]
      clear HGG hz
      (have z0 := HZ.out.cell 0; have z1 := HZ.out.cell 1; have z2 := HZ.out.cell 2; have z3 := HZ.out.cell 3; have z4 := HZ.out.cell 4; have f0 := HZ.out.frozen 0; have f1 := HZ.out.frozen 1; have f2 := HZ.out.frozen 2; have f3 := HZ.out.frozen 3; have f4 := HZ.out.frozen 4; simp at z0 z1 z2 z3 z4)
      go_wp2
      refine bodyPost_ret (v := .tuple #[itemV Item.zero, .int .i64 z]) (by (simp [results, Tryz.results49, go_sem, z0, z1, z2, z3, z4]; try exact ⟨rfl, rfl, rfl, rfl, rfl⟩)) rfl ⟨?_, ?_⟩
      · rw [HG2.out]
      · refine devN_new HD.out HD3.out HC3.out ?_
        (repeat (first | (with_reducible exact Chg.refl _ _) | (with_reducible assumption) | (with_reducible refine Chg.drewN ?_ _) | (with_reducible refine Chg.drew ?_) | (with_reducible refine Chg.alloc ?_ _) | (with_reducible refine Chg.setCell ?_ (by first | (left; simp [DevH.foot]; done) | (right; simp; done) | (right; simp; omega)) _)))
def Sto.allL (B : Sto) (D : Dev) (n : Nat) : List Item := (List.range n).flatMap fun (i : Nat) => B.lL D (i : Int)
theorem Sto.allL_succ (B : Sto) (D : Dev) (n : Nat) : B.allL D (n + 1) = B.allL D n ++ B.lL D (n : Int) := by simp [Sto.allL, List.range_succ]
set_option maxRecDepth 100000 in
theorem sitems_calls {N : Nat} {w : World} {h : DevH} {D : Dev} {t : StoH} {B : Sto} (hd : DevN N w h D) (hs : StoAt w h t B) (he : ∀ i : Nat, i < B.fs.length → B.lE D i = 0) :
    Calls Tryz.prog 57 #[.pointer (some ⟨t.s, 0, none⟩)] w fun e w' => ∃ v, e = .returned (.tuple #[v, .int .i64 0]) ∧ w'.ownsRow w.heap.size tItem 5 v (B.allL D B.fs.length).length (its (B.allL D B.fs.length)) ∧ DevN N w' h D ∧ Chg h.foot w w' := by
  have c3 := hs.box.cell 3
  simp at c3
  have hmost := hs.most
  obtain ⟨n, hn⟩ : ∃ n, n = B.fs.length := ⟨_, rfl⟩
  rw [← hn] at c3 he hmost ⊢
  have HE := Lib.hid he
  have HD := Lib.hid hd
  have HS := Lib.hid hs
  clear he hd hs hn
  go_enter Tryz.func57, Tryz.ntmps57
  go_wp2
  go_loopg [4, 13] n (fun g v4 v13 wr => ∃ k : Nat, v13 = .int .i64 k ∧ k ≤ n ∧ g = n - k ∧ Hid (DevN N wr h D ∧ Chg h.foot w wr ∧ wr.ownsRow w.heap.size tItem 5 v4 (B.allL D k).length (its (B.allL D k)) ∧ (B.allL D k).length ≤ 12 * k))
  case atStart => exact ⟨0, rfl, by omega, rfl, ⟨HD.out, Chg.refl _ _, World.ownsRow_nil _ _ _ _, by simp [Sto.allL]⟩⟩
  case round =>
    obtain ⟨k, rfl, hk, rfl, H⟩ := hrel
    by_cases h0 : k < n
    · have HL := Lib.hid (blist_calls H.out.1 (HS.out.foot HD.out H.out.2.1) k (by omega))
      have hbs := HL
      rw [HE.out k h0] at HL
      have hll := lL_le HD.out B k
      have hal := H.out.2.2.2
      clear hbs
      go_wp2_with fail
      refine HL.out.mono ?_
      rintro e w1 ⟨v, rfl, ho1, hd1, hc1⟩
      obtain ⟨A, c, rfl, hnc, hrd⟩ := own_slice ho1
      have HRD := Lib.hid hrd
      have HD1 := Lib.hid hd1
      have HC1 := Lib.hid hc1
      have hfo : ∀ kk, Value.ownBlock _ = some kk → ¬ h.foot kk := fun kk hkk hf => by
        have h1 := (own_new H.out.2.2.1) kk hkk
        obtain ⟨a, b, c, e, hb⟩ := HD.out.box
        obtain ⟨ps, hb2, _⟩ := HD.out.row
        obtain ⟨es, hb3, _⟩ := HD.out.map
        have := hb.lt
        have := hb2.lt
        have := hb3.lt
        rcases hf with hf | hf | hf <;> omega
      have HO1 := Lib.hid (own_chg H.out.2.2.1 hc1 hfo)
      have hsz : w.heap.size ≤ w1.heap.size := by have := H.out.2.1.size; have := hc1.size; omega
      clear hrd hd1 hc1 ho1 hfo
      go_wp2_with (first
        | (at_builtin; refine wpList_app _ rfl (.tmp 25) (.tmp 26) 46 rfl tItem Tryz.underlying46 ti_item rfl (by omega) w.heap.size _ _ _ rfl HO1.out tItem _ _ _ _ rfl HRD.out its_one_cell (by simp only [maxLen]; omega) (by omega) (by omega) ?_; intro v2 w2 ho2 hg2 hb2; have HO2 := Lib.hid ho2; have HG2 := Lib.hid hg2; clear ho2 hg2 hb2))
      go_roundg (n - (k + 1))
      case measure => omega
      case rel =>
        refine ⟨k + 1, rfl, by omega, rfl, ?_⟩
        have hch : Chg (fun j => w.heap.size ≤ j) w1 w2 := (Chg.refl _ _).grown HG2.out (fun k' hk' => .inl (own_new HO1.out k' hk'))
        have := devN_new HD.out HD1.out (H.out.2.1.trans HC1.out) hch
        refine ⟨this.1, this.2, ?_, ?_⟩
        · rw [Sto.allL_succ, List.length_append, its_append]
          exact HO2.out
        · rw [Sto.allL_succ, List.length_append]; omega
    · have e3 : k = n := by omega
      subst e3
      go_wp2
      go_ret2
      exact ⟨_, rfl, H.out.2.2.1, H.out.1, H.out.2.1⟩
end Go.Proofs.YtplpbbdakihnfaaGreat
end

section
namespace Go.Proofs.YtplpbbdakihnfaaGreat
open Go.RowKit
theorem foot_lt {N : Nat} {w : World} {h : DevH} {D : Dev} (hd : DevN N w h D) {k : Nat} (hk : h.foot k) : k < w.heap.size := by
  obtain ⟨a, b, c, e, hb⟩ := hd.box
  obtain ⟨ps, hb2, _⟩ := hd.row
  obtain ⟨es, hb3, _⟩ := hd.map
  have := hb.lt
  have := hb2.lt
  have := hb3.lt
  rcases hk with rfl | rfl | rfl <;> omega
theorem layB_le (l : List Item) (room : Nat) : (layB l room).length ≤ room := by
  unfold layB
  by_cases h : layE l room = 0
  · rw [if_pos h]
    unfold layE at h
    split at h
    · split at h
      · cases h
      · split at h
        · cases h
        · simp; omega
    · cases h
  · rw [if_neg h]; simp
def Sto.rest (B : Sto) (D : Dev) (key : ByteArray) : List Item := rid (B.lL D (B.no key)) key
def Sto.dropE (B : Sto) (D : Dev) (key : ByteArray) : Int :=
  if (B.rest D key).length = (B.lL D (B.no key)).length then 5 else D.writeE (B.first + B.no key) (layB (B.rest D key) 384).length
def Sto.dropD (B : Sto) (D : Dev) (key : ByteArray) : Dev :=
  if (B.rest D key).length = (B.lL D (B.no key)).length then D else D.write (B.first + B.no key) (layB (B.rest D key) 384)
set_option maxRecDepth 100000 in
theorem drop_calls {N : Nat} {w : World} {h : DevH} {D : Dev} {t : StoH} {B : Sto} (hd : DevN N w h D) (hs : StoAt w h t B) (hp : 0 < B.fs.length) (key : ByteArray) (hk : key.size ≤ 140737488351232) (he : B.lE D (B.no key) = 0) :
    Calls Tryz.prog 47 #[.pointer (some ⟨t.s, 0, none⟩), .string key] w fun e w' => e = .returned (.int .i64 (B.dropE D key)) ∧ DevAt w' h (B.dropD D key) ∧ Chg h.foot w w' := by
  have HOF := Lib.hid (of_calls hs hp key hk)
  have hlt := B.no_lt hp key
  have hmost := hs.most
  obtain ⟨hf1, hf2⟩ := hs.fit
  have hll := lL_le hd B (B.no key)
  have HL := fun W => Lib.hid (fun hc : Chg No w W => blist_calls (hd.chgNo hc) (hs.chgNo hc) (B.no key) (by omega))
  rw [he] at HL
  have HEE : Hid (B.dropE D key = if (rid (B.lL D (B.no key)) key).length = (B.lL D (B.no key)).length then 5 else D.writeE (B.first + B.no key) (layB (rid (B.lL D (B.no key)) key) 384).length) := rfl
  have HDD : Hid (B.dropD D key = if (rid (B.lL D (B.no key)) key).length = (B.lL D (B.no key)).length then D else D.write (B.first + B.no key) (layB (rid (B.lL D (B.no key)) key) 384)) := rfl
  obtain ⟨i, hi⟩ : ∃ i, i = B.no key := ⟨_, rfl⟩
  obtain ⟨l, hl⟩ : ∃ l, l = B.lL D (B.no key) := ⟨_, rfl⟩
  rw [← hl] at HL HEE HDD hll
  rw [← hi] at HL HEE HDD HOF hlt
  have HD := Lib.hid hd
  have HS := Lib.hid hs
  have hadd : IntKind.i64.wrap (B.first + (i : Int)) = B.first + (i : Int) := IntWalk.i64_in _ (by omega)
  clear hd hs he hi hl
  go_enter Tryz.func47, Tryz.ntmps47
  go_wp2_with fail
  refine HOF.out.mono ?_
  rintro e w1 ⟨rfl, hc1⟩
  have HC1 := Lib.hid hc1
  clear hc1
  go_wp2_with fail
  refine ((HL _).out HC1.out).mono ?_
  rintro e w2 ⟨v, rfl, ho2, hd2, hc2⟩
  obtain ⟨A, c, rfl, hnc, hrd, h00⟩ := own_slice2 ho2
  have HC2 : Hid (Chg h.foot w w2) := (HC1.out.mono (fun _ _ h => h.elim)).trans hc2
  have HD2 := Lib.hid hd2
  have HW := Lib.hid (without_calls A c key l w2 hrd (by omega) h00)
  clear hc2 hrd ho2 hd2 h00
  go_wp2_with fail
  refine HW.out.mono ?_
  rintro e w3 ⟨v3, rfl, ho3, hc3⟩
  obtain ⟨m, hm⟩ : ∃ m, m = rid l key := ⟨_, rfl⟩
  have hml : m.length ≤ l.length := by rw [hm]; exact List.length_filter_le _ _
  rw [← hm] at ho3 HEE HDD
  obtain ⟨A3, c3, rfl, hnc3, hrd3⟩ := own_slice ho3
  have HC3 : Hid (Chg h.foot w w3) := HC2.out.trans (hc3.mono (fun _ _ h => h.elim))
  have HD3 := Lib.hid (HD2.out.chgNo hc3)
  have HLAY := Lib.hid (lay_calls A3 c3 m 384 w3 hrd3 (by omega) (by omega))
  clear hm hc3 hrd3 ho3
  by_cases hsame : m.length = l.length
  · rw [if_pos hsame] at HEE HDD
    have hb : ((m.length : Int) == (l.length : Int)) = true := by simp [hsame]
    clear hsame
    go_wp2
    go_ret
    exact ⟨by rw [HEE.out]; rfl, by rw [HDD.out]; exact HD3.out.at_, HC3.out⟩
  · rw [if_neg hsame] at HEE HDD
    have hb : ((m.length : Int) == (l.length : Int)) = false := by simp; omega
    clear hsame
    go_wp2_with fail
    refine HLAY.out.mono ?_
    rintro e w4 ⟨v4, rfl, ho4, hc4⟩
    obtain ⟨b, hbb⟩ : ∃ b, b = layB m ((384 : Nat) : Int) := ⟨_, rfl⟩
    have HBB : Hid (layB m 384 = b) := hbb.symm
    rw [← hbb] at ho4
    obtain ⟨A4, c4, rfl, hnc4, hrd4⟩ := own_slice ho4
    have HC4 : Hid (Chg h.foot w w4) := HC3.out.trans (hc4.mono (fun _ _ h => h.elim))
    have HD4 := Lib.hid (HD3.out.chgNo hc4)
    have HS4 := Lib.hid (HS.out.foot HD.out HC4.out)
    have hb4 : b.length ≤ 140737488351232 := by have h1 : b = layB m ((384 : Nat) : Int) := HBB.out.symm; have := layB_le m 384; rw [← h1] at this; omega
    have HWR := fun W => Lib.hid (fun hc : Chg No w4 W => write_calls (HD4.out.chgNo hc) (B.first + (i : Int)) A4 b.length c4 b (by have := hrd4.chg hc (fun _ _ _ _ h => h); simpa using this) hb4)
    have c04 := HS4.out.box.cell 0
    have c24 := HS4.out.box.cell 2
    simp at c04 c24
    have hl4 := HS4.out.box.lt
    rw [HBB.out] at HEE HDD
    clear hbb hc4 hrd4 ho4 HLAY
    go_wp2_with fail
    go_region_held3 (fun w' => w'.cell? ⟨t.s, 0, none⟩ = some (.pointer (some ⟨h.d, 0, none⟩)) ∧ w'.cell? ⟨t.s, 2, none⟩ = some (.int .i64 B.first)) (first | go_keep)
      ((go_at_call 74
        refine ((HWR _).out (by (repeat (first | (with_reducible exact Chg.refl _ _) | (with_reducible assumption) | (with_reducible refine Chg.drewN ?_ _) | (with_reducible refine Chg.drew ?_) | (with_reducible refine Chg.alloc ?_ _) | (with_reducible refine Chg.setCell ?_ (by first | (left; simp [DevH.foot]; done) | (right; simp; done) | (right; simp; omega)) _))))).mono ?_
        rintro e w5 ⟨rfl, hd5, hc5⟩
        have HD5 := Lib.hid hd5
        have HC5 : Hid (Chg h.foot w w5) := (HC4.out.trans ((by (repeat (first | (with_reducible exact Chg.refl _ _) | (with_reducible assumption) | (with_reducible refine Chg.drewN ?_ _) | (with_reducible refine Chg.drew ?_) | (with_reducible refine Chg.alloc ?_ _) | (with_reducible refine Chg.setCell ?_ (by first | (left; simp [DevH.foot]; done) | (right; simp; done) | (right; simp; omega)) _))) : Chg No w4 _).mono (fun _ _ h => h.elim))).trans hc5
        have HS5 := Lib.hid (HS.out.foot HD.out HC5.out)
        clear hd5 hc5
        have c05 := HS5.out.box.cell 0
        have c25 := HS5.out.box.cell 2
        simp at c05 c25))
    go_wp2
    go_ret
    exact ⟨by rw [HEE.out]; rfl, by rw [HDD.out]; exact HD5.out, HC5.out⟩
end Go.Proofs.YtplpbbdakihnfaaGreat
end
