/- ImageSpoils: the walk. -/
import Derived.Test.YtinofdfjaopdcaaJSpoilA
import Derived.Test.YtinofdfjaopdcaaFlashG
import Derived.Test.YtinofdfjaopdcaaJShort
namespace Go.Proofs.Ytinofdfjaopdcaa
open Go.RowKit
attribute [local go_sem ↓] Go.wp_at_zero Go.wp_at_succ
set_option linter.unusedSimpArgs false
set_option linter.unusedVariables false

theorem xor_nat : ∀ n : Nat, n < 256 → bits .xor .u8 (n : Int) 1 = ((UInt8.ofNat n ^^^ 1).toNat : Int) ∧ UInt8.ofNat n ^^^ 1 ≠ UInt8.ofNat n := by decide +kernel
theorem xor_byte (x : UInt8) : bits .xor .u8 (x.toNat : Int) 1 = ((x ^^^ 1).toNat : Int) ∧ x ^^^ 1 ≠ x := by
  have := xor_nat x.toNat x.toNat_lt
  rwa [UInt8.ofNat_toNat] at this
theorem rd_two8 (W : World) : Rd (W.alloc (.cells #[.int .u8 2] tU8)) tU8 (some ⟨W.heap.size, 0, none⟩) 1 (bys [2]) := by
  have := Rd.ofBlk (k := 1) (Blk.new W tU8 #[.int .u8 2]) (by simp)
  simpa [bys] using this

set_option maxRecDepth 100000 in
set_option maxHeartbeats 4000000 in
theorem jspoil_calls (pg how : Int) (A : Option Addr) (n c : Nat) (l : List Item) (t : TypeId) (w : World) (hpb : -9223372036854775808 ≤ pg ∧ pg ≤ 9223372036854775807) (hhb : -9223372036854775808 ≤ how ∧ how ≤ 9223372036854775807) (hn : l.length = n) (hr : Rd w t A (n * 5) (its l)) :
    Calls Try.prog 12 #[.slice A n c, .int .i64 pg, .int .i64 how] w fun e w' => e = .returned (.bool true) ∧ Chg No w w' := by
  have HAW := Lib.hid (awake15_calls w)
  have HN := fun W => Lib.hid (new70_calls W)
  have HR := Lib.hid hr
  have HLN := Lib.hid hn
  clear hr hn
  by_cases h1 : 20 < n
  · have b1 : decide ((20 : Int) < (n : Int)) = true := by simp; omega
    have g1 : (20 : Int) < (n : Int) := by omega
    clear h1 HN
    go_enter Try.func12, Try.ntmps12
    go_wp2_with fail
    refine HAW.out.mono ?_
    rintro e w0 ⟨rfl, hc0⟩
    go_wp2
    go_ret
    exact ⟨rfl, hc0⟩
  have b1 : decide ((20 : Int) < (n : Int)) = false := by simp; omega
  have g1 : ¬ (20 : Int) < (n : Int) := by omega
  have hn20 : n ≤ 20 := by omega
  clear h1
  go_enter Try.func12, Try.ntmps12
  go_wp2_with fail
  refine HAW.out.mono ?_
  rintro e w0 ⟨rfl, hc0⟩
  have HC0 := Lib.hid hc0
  clear hc0 HAW
  go_wp2_with fail
  refine (HN _).out.mono ?_
  rintro e w1 ⟨h, rfl, hd1, hc1, hf1⟩
  have HC1 := Lib.hid (HC0.out.trans hc1)
  have HF1 : Hid (∀ k, h.foot k → w.heap.size ≤ k) := fun k hk => Nat.le_trans HC0.out.size (hf1 k hk)
  have HFA : ∀ W, Hid (Chg No w W → ∀ W', Chg h.foot W W' → Chg No w W') := fun W => fun h1 W' h2 => h1.then h2 (fun i hi hT => by have := HF1.out i hT; omega)
  have HDU := Lib.hid (dump_calls hd1 0 60 (by decide) (by decide) A n c l t HLN.out (HR.out.chg HC1.out (fun _ _ _ _ h => h)) (by omega))
  clear hd1 hc1 hf1 HN
  go_wp2_with fail
  refine HDU.out.mono ?_
  rintro e w2 ⟨p, m, er, D2, rfl, hd2, hc2, hR⟩
  have HC2 := Lib.hid ((HFA _).out HC1.out _ hc2)
  have HD2 := Lib.hid hd2
  have hm : (Dev.new 70).may 0 60 = true := by decide
  cases hg : goods l with
  | false =>
    obtain ⟨_, _, rfl, _⟩ := hR.bad (by rw [hm, hg]; rfl)
    clear hg hm hR hd2 hc2 HDU
    go_wp2
    go_ret
    exact ⟨rfl, HC2.out⟩
  | true =>
    obtain ⟨rfl, hp60, hO, hn70, hst, hpages⟩ := hR.pageOf (new_Ok 70) rfl hg
    have HO := Lib.hid hO
    have H70 := Lib.hid hn70
    have HST := Lib.hid hst
    have HPS := Lib.hid hpages
    clear hg hm hR hd2 hc2 HDU hO hn70 hst hpages
    by_cases q1 : pg < 0
    · have b2 : decide (pg < 0) = true := by simpa using q1
      go_wp2
      go_ret
      exact ⟨rfl, HC2.out⟩
    have b2 : decide (pg < 0) = false := by simpa using q1
    by_cases q2 : (p : Int) ≤ pg
    · have b3 : decide ((p : Int) ≤ pg) = true := by simpa using q2
      go_wp2
      go_ret
      exact ⟨rfl, HC2.out⟩
    have b3 : decide ((p : Int) ≤ pg) = false := by simpa using q2
    obtain ⟨j, rfl⟩ : ∃ j : Nat, pg = j := ⟨pg.toNat, by omega⟩
    have hjp : j < p := by omega
    obtain ⟨ch, hch, hpg⟩ := HPS.out j hjp
    obtain ⟨r1, r2⟩ := HO.out.read_ (k := j) (by rw [H70.out]; omega)
    rw [hpg] at r1 r2
    obtain ⟨px, hpx⟩ : ∃ px, px = Dev.pad (pgOf ch j) := ⟨_, rfl⟩
    have hpl : px.length = 384 := by rw [hpx]; exact pad_len (by rw [pgOf_len]; omega)
    have r2' : D2.read (j : Int) = px := by rw [r2, hpx]; rfl
    have r1' : D2.readE (j : Int) = 0 := r1
    have HRD : Hid (Calls Try.prog 22 #[.pointer (some ⟨h.d, 0, none⟩), .int .i64 j] w2 fun e w' => ∃ v, e = .returned (.tuple #[v, .int .i64 0]) ∧ w'.ownsRow w2.heap.size tU8 1 v 384 (bys px) ∧ DevN w2.heap.size w' h D2 ∧ Chg h.foot w2 w') := by
      have := read_calls (show DevN w2.heap.size w2 h D2 from HD2.out) (j : Int)
      rw [r1', r2', hpl] at this
      exact this
    have HPX := Lib.hid hpx
    have HPL := Lib.hid hpl
    have HCH := Lib.hid hch
    clear hpg r1 r2 hpx hpl r1' r2' hch HPS
    go_wp2_with fail
    refine HRD.out.mono ?_
    rintro e w3 ⟨v3, rfl, ho3, hd3, hc3⟩
    have HC3 := Lib.hid ((HFA _).out HC2.out _ hc3)
    obtain ⟨A3, c3, rfl, hnc3, hr3⟩ := own_slice ho3
    have HO3 := Lib.hid ho3
    have HD3 := Lib.hid hd3
    have HR3 := Lib.hid hr3
    clear ho3 hd3 hc3 hr3 HRD
    obtain ⟨Q, hQ⟩ : ∃ Q, bits .and .i64 how 3 = Q := ⟨_, rfl⟩
    have FIN : Hid (∀ (W : World) (D : Dev), DevAt W h D → D.load 0 p = ([], 3) → Chg No w W → Calls Try.prog 18 #[.pointer (some ⟨h.d, 0, none⟩), .int .i64 0, .int .i64 p] W fun e w' => ∃ A c, e = .returned (.tuple #[.slice A 0 c, .int .i64 3]) ∧ Chg No w w') := fun W D hd hl hc => by
      have := load_calls hd 0 (p : Int) (by decide) (by omega)
      rw [hl] at this
      refine this.mono ?_
      rintro e w' ⟨v, rfl, ho, _, hc'⟩
      obtain ⟨A, c, rfl, _⟩ := own_slice ho
      exact ⟨A, c, rfl, (HFA _).out hc _ hc'⟩
    by_cases k0 : Q = 0
    · obtain rfl : 0 = Q := k0.symm
      have HER := Lib.hid (erase_calls HD3.out (j : Int))
      have HLD := Lib.hid (spoil_erase HO.out H70.out hp60 hjp)
      clear k0
      go_wp2_with fail
      refine HER.out.mono ?_
      rintro e w4 ⟨rfl, hd4, hc4⟩
      have HC4 := Lib.hid ((HFA _).out HC3.out _ hc4)
      have HF := Lib.hid (FIN.out w4 _ hd4 HLD.out HC4.out)
      clear hd4 hc4 HER HLD
      go_wp2_with fail
      refine HF.out.mono ?_
      rintro e w5 ⟨A5, c5, rfl, hc5⟩
      go_wp2
      go_ret
      exact ⟨rfl, hc5⟩
    have k0' : (Q == 0) = false := by simpa using k0
    by_cases k1 : Q = 1
    · obtain rfl : 1 = Q := k1.symm
      have HWR := Lib.hid (write_calls HD3.out (j : Int) A3 384 c3 px (by have := HR3.out; rwa [Nat.mul_one] at this) (by omega))
      have HLD := Lib.hid (spoil_torn HO.out HST.out H70.out hp60 hjp HPL.out)
      clear k0 k0' k1
      go_wp2_with fail
      refine HWR.out.mono ?_
      rintro e w4 ⟨rfl, hd4, hc4⟩
      have HC4 := Lib.hid ((HFA _).out HC3.out _ hc4)
      have HD4 := Lib.hid hd4
      have HCRA : ∀ W, Hid (Chg No w4 W → ∀ A, Rd W tU8 A 1 (bys [2]) → Calls Try.prog 37 #[.pointer (some ⟨h.d, 0, none⟩), .slice A 1 1] W fun e w' => e = .returned (.tuple #[]) ∧ DevAt w' h ((D2.write j px).crash [2]) ∧ Chg h.foot W w') := fun W => fun hc A hr =>
        crash_calls (HD4.out.chgNo hc) A 1 1 [2] tU8 rfl (fun W' hc' => hr.chg hc' (fun g cur fz hg => DevN.not_foot (HD4.out.chgNo hc) hg (by decide) (by decide)))
      clear hd4 hc4 HWR
      go_wp2_with fail
      refine ((HCRA _).out (by (repeat (first | (with_reducible exact Chg.refl _ _) | (with_reducible assumption) | (with_reducible refine Chg.drewN ?_ _) | (with_reducible refine Chg.drew ?_) | (with_reducible refine Chg.alloc ?_ _) | (with_reducible refine Chg.setCell ?_ (by first | (left; simp [DevH.foot]; done) | (right; simp; done) | (right; simp; omega)) _)))) _ (rd_two8 _)).mono ?_
      rintro e w5 ⟨rfl, hd5, hc5⟩
      have HC5 := Lib.hid ((HFA _).out (HC4.out.alloc _) _ hc5)
      have HON := Lib.hid (on_calls hd5)
      clear hd5 hc5 HCRA
      go_wp2_with fail
      refine HON.out.mono ?_
      rintro e w6 ⟨rfl, hd6, hc6⟩
      have HC6 := Lib.hid ((HFA _).out HC5.out _ hc6)
      have HF := Lib.hid (FIN.out w6 _ hd6 HLD.out HC6.out)
      clear hd6 hc6 HON HLD
      go_wp2_with fail
      refine HF.out.mono ?_
      rintro e w7 ⟨A7, c7, rfl, hc7⟩
      go_wp2
      go_ret
      exact ⟨rfl, hc7⟩
    have k1' : (Q == 1) = false := by simpa using k1
    have STORE : Hid (∀ (i : Nat) (x : UInt8), i < 384 → ∃ g, A3 = some ⟨g, 0, none⟩ ∧ w3.frozen? ⟨g, i, none⟩ = false ∧ w3.cell? ⟨g, i, none⟩ = some (.int .u8 (px.getD i 0).toNat) ∧
        DevAt (w3.setCell ⟨g, i, none⟩ (.int .u8 x.toNat)) h D2 ∧ Chg No w (w3.setCell ⟨g, i, none⟩ (.int .u8 x.toNat)) ∧ Rd (w3.setCell ⟨g, i, none⟩ (.int .u8 x.toNat)) tU8 (some ⟨g, 0, none⟩) 384 (bys (px.set i x))) := fun i x hi => by
      obtain ⟨g, rfl, hgb, hfz, _, hrx, hob⟩ := own_store HO3.out i hi (.int .u8 x.toNat)
      refine ⟨g, rfl, hfz, ?_, ?_, ?_, ?_⟩
      · obtain ⟨g', off, e, _, hx⟩ := HR3.out.at_ (j := i) (by omega)
        have e' : g = g' ∧ 0 = off := by simpa using e
        obtain ⟨rfl, rfl⟩ := e'
        have := hx i (.int .u8 (px.getD i 0).toNat) (by
          have hpl := HPL.out
          simp [bys, List.getD_eq_getElem?_getD, List.getElem?_eq_getElem (show i < px.length by omega)])
        rwa [Nat.zero_add] at this
      · have hcg : Chg (fun k => k = g) w3 (w3.setCell ⟨g, i, none⟩ (.int .u8 x.toNat)) := chg_setCell w3 ⟨g, i, none⟩ _
        exact (HD3.out.chg hcg (fun hS => own_foot HD3.out HO3.out (by decide) (by decide) _ hob (.inl hS.symm)) (fun hS => own_foot HD3.out HO3.out (by decide) (by decide) _ hob (.inr (.inl hS.symm))) (fun hS => own_foot HD3.out HO3.out (by decide) (by decide) _ hob (.inr (.inr hS.symm))) (fun g' cs T hg' _ _ hS => by have hS' : g' = g := hS; omega)).at_
      · exact HC3.out.setCell (.inr (Nat.le_trans HC2.out.size hgb)) _
      · have e : bys (px.set i x) = (bys px).set i (.int .u8 x.toNat) := by unfold bys; rw [List.map_set]
        rw [e]; exact hrx
    by_cases k2 : Q = 2
    · obtain rfl : 2 = Q := k2.symm
      obtain ⟨x, hx⟩ : ∃ x, x = px.getD 4 0 := ⟨_, rfl⟩
      have HXB := Lib.hid (xor_byte x)
      obtain ⟨g, rfl, hfz, hcell, hdv, hcv, hrv⟩ := STORE.out 4 (x ^^^ 1) (by omega)
      rw [← hx] at hcell
      obtain ⟨w4, hw4⟩ : ∃ w4, w4 = w3.setCell ⟨g, 4, none⟩ (.int .u8 ((x ^^^ 1).toNat)) := ⟨_, rfl⟩
      rw [← hw4] at hdv hcv hrv
      have HWR := Lib.hid (write_calls hdv (j : Int) (some ⟨g, 0, none⟩) 384 c3 (px.set 4 (x ^^^ 1)) hrv (by omega))
      have HLD : Hid ((D2.write j (px.set 4 (x ^^^ 1))).load 0 p = ([], 3)) := spoil_bytes HO.out H70.out hp60 hjp (by rw [List.length_set]; exact HPL.out) (by rw [HPX.out]; exact spoil_place HCH.out (by omega) (by rw [← HPX.out, ← hx]; exact HXB.out.2))
      have HC4 := Lib.hid hcv
      have HW4 : Hid (w3.setCell ⟨g, 4, none⟩ (.int .u8 (bits .xor .u8 (x.toNat : Int) 1)) = w4) := by show _ = _; rw [HXB.out.1, hw4]
      clear hdv hcv hrv hw4 STORE hx k0 k0' k1 k1' k2
      go_wp2_with fail
      rw [HW4.out]
      refine HWR.out.mono ?_
      rintro e w5 ⟨rfl, hd5, hc5⟩
      have HC5 := Lib.hid ((HFA _).out HC4.out _ hc5)
      have HF := Lib.hid (FIN.out w5 _ hd5 HLD.out HC5.out)
      clear hd5 hc5 HWR HLD
      go_wp2_with fail
      refine HF.out.mono ?_
      rintro e w6 ⟨A6, c6, rfl, hc6⟩
      go_wp2
      go_ret
      exact ⟨rfl, hc6⟩
    · have k2' : (Q == 2) = false := by simpa using k2
      obtain ⟨g, rfl, hfz, hcell, hdv, hcv, hrv⟩ := STORE.out 0 0 (by omega)
      obtain ⟨w4, hw4⟩ : ∃ w4, w4 = w3.setCell ⟨g, 0, none⟩ (.int .u8 ((0 : UInt8).toNat)) := ⟨_, rfl⟩
      rw [← hw4] at hdv hcv hrv
      have HWR := Lib.hid (write_calls hdv (j : Int) (some ⟨g, 0, none⟩) 384 c3 (px.set 0 0) hrv (by omega))
      have HLD : Hid ((D2.write j (px.set 0 0)).load 0 p = ([], 3)) := spoil_bytes HO.out H70.out hp60 hjp (by rw [List.length_set]; exact HPL.out) (by rw [HPX.out]; exact spoil_magic HCH.out)
      have HC4 := Lib.hid hcv
      have HW4 := Lib.hid hw4
      clear hdv hcv hrv hw4 STORE
      go_wp2_with fail
      have e0 : w3.setCell ⟨g, 0, none⟩ (.int .u8 0) = w4 := HW4.out.symm
      rw [e0]
      refine HWR.out.mono ?_
      rintro e w5 ⟨rfl, hd5, hc5⟩
      have HC5 := Lib.hid ((HFA _).out HC4.out _ hc5)
      have HF := Lib.hid (FIN.out w5 _ hd5 HLD.out HC5.out)
      clear hd5 hc5 HWR HLD
      go_wp2_with fail
      refine HF.out.mono ?_
      rintro e w6 ⟨A6, c6, rfl, hc6⟩
      go_wp2
      go_ret
      exact ⟨rfl, hc6⟩
end Go.Proofs.Ytinofdfjaopdcaa
