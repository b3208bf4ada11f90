/- RegionRounds, walked. -/
import Derived.Test.YtcmobcbecbajiaaRegSe
namespace Go.Proofs.Ytcmobcbecbajiaa
open Go.RowKit
open Go.ChangeMaps (setBlock)
attribute [local go_sem ↓] Go.wp_at_zero Go.wp_at_succ
set_option linter.unusedSimpArgs false
set_option linter.unusedVariables false

def keyR (i : Nat) : ByteArray := ⟨#[UInt8.ofNat (97 + i)]⟩
def itR (i : Nat) : Item := itJ (keyR i) (UInt64.ofNat i)
def runR (r : Nat) : Nat → Lg
  | 0 => { losses := 0, first := 0, regs := List.replicate r .no, opn := [], number := 0, keys := [] }
  | i + 1 => ((runR r i).add (itR (i + 1))).shut
def okR (r i : Nat) : Bool := decide ((runR r i).number = i) && decide ((runR r i).items.length = min i r) && decide (((runR r i).add (itR (i + 1))).given.1.map (fun x => x.ver.toNat) = if r < i + 1 then [i + 1 - r] else [])
theorem okR_all : ∀ r, r < 5 → ∀ i, i < 21 → r = 0 ∨ okR r i = true := by decide +kernel
theorem runR_ok {r i : Nat} (h0 : 1 ≤ r) (h4 : r ≤ 4) (hi : i ≤ 20) : (runR r i).number = i ∧ (runR r i).items.length = min i r ∧ ((runR r i).add (itR (i + 1))).given.1.map (fun x => x.ver.toNat) = if r < i + 1 then [i + 1 - r] else [] := by
  rcases okR_all r (by omega) i (by omega) with h | h
  · omega
  · unfold okR at h
    simp only [Bool.and_eq_true, decide_eq_true_eq] at h
    exact ⟨h.1.1, h.1.2, h.2⟩
theorem itR_fits {i : Nat} (h : 1 ≤ i) (hi : i ≤ 21) : Lg.fits (itR i) = true := by
  have h2 : (UInt64.ofNat i).toNat = i := by rw [UInt64.toNat_ofNat']; omega
  have e1 : (itR i).key.size = 1 := rfl
  have e2 : (itR i).val.size = 1 := rfl
  have e3 : (itR i).ver.toNat = i := h2
  have e4 : (itR i).size ≤ 1472 := by unfold Item.size; rw [e1, e2]; omega
  unfold Lg.fits Item.good
  rw [e1, e2, e3]
  simp [e4]
  omega
theorem runR_opn (r i : Nat) : (runR r i).opn = [] := by cases i <;> rfl
theorem runR_len (r : Nat) : ∀ i, (runR r i).regs.length = r
  | 0 => by simp [runR]
  | i + 1 => by rw [runR, len_shut]; exact runR_len r i
theorem roundR {r i : Nat} {D : Dev} (h0 : 1 ≤ r) (h4 : r ≤ 4) (hi : i < 20) (h : Live (runR r i) D) :
    (runR r i).put D (itR (i + 1)) = ⟨(runR r i).add (itR (i + 1)), D, [], 0⟩ ∧ ∃ D' lost, ((runR r i).add (itR (i + 1))).sl D = ⟨runR r (i + 1), D', lost, 0⟩ ∧ Live (runR r (i + 1)) D' ∧ lost.map (fun x => x.ver.toNat) = if r < i + 1 then [i + 1 - r] else [] := by
  have hf := itR_fits (i := i + 1) (by omega) (by omega)
  have hfg := fits_good hf
  have hn := (runR_ok h0 h4 (i := i) (by omega)).1
  have hs : isum (runR r i).opn + (itR (i + 1)).size ≤ 1472 := by rw [runR_opn]; simpa [isum] using hfg.2
  have hp : (runR r i).put D (itR (i + 1)) = ⟨(runR r i).add (itR (i + 1)), D, [], 0⟩ := by
    unfold Lg.put
    rw [if_pos hf, if_pos hs]
  have hl : Live ((runR r i).add (itR (i + 1))) D := by
    have := (h.put (by rw [hn]; omega) (itR (i + 1))).1
    rw [hp] at this
    exact this
  have hsl := hl.sl (by show (runR r i).number + 1 < _; rw [hn]; omega)
  have e := hsl.2.2.2 (by simp [Lg.add])
  have hl2 := hsl.2.1
  rw [e] at hl2
  exact ⟨hp, _, _, e, hl2, (runR_ok h0 h4 (i := i) (by omega)).2.2⟩

theorem Hlog.items {w0 w : World} {h : DevH} {t : LgH} {G : Lg} {D : Dev} (H : Hlog w0 h t G D w) (h20 : G.regs.length < 20) :
    Calls Try.prog 32 #[.pointer (some ⟨t.L, 0, none⟩)] w fun e w' => ∃ v, e = .returned v ∧ w'.ownsRow w.heap.size tItem 5 v G.items.length (its G.items) ∧ Chg No w w' := by
  have hbl := byNum_len G.regs
  exact items_calls H.log h20 (byNum_lt _) (by omega)

set_option maxRecDepth 100000 in
set_option maxHeartbeats 8000000 in
theorem rrounds_calls (z y : Int) (w : World) (hz : -9223372036854775808 ≤ z ∧ z ≤ 9223372036854775807) (hy : -9223372036854775808 ≤ y ∧ y ≤ 9223372036854775807) :
    Calls Try.prog 6 #[.int .i64 z, .int .i64 y] w fun e w' => e = .returned (.bool true) ∧ Chg No w w' := by
  have HA := Lib.hid (awake9_calls w)
  have HN := fun W => Lib.hid (new_calls 16 W (by omega) (by omega))
  by_cases h1 : z < 1
  · go_enter Try.func6, Try.ntmps6
    go_wp2_with fail
    refine HA.out.mono ?_
    rintro e w0 ⟨rfl, hc0⟩
    have HC0 := Lib.hid hc0
    clear hc0 HA HN
    go_wp2
    go_ret
    exact ⟨rfl, HC0.out⟩
  by_cases h2 : 4 < z
  · go_enter Try.func6, Try.ntmps6
    go_wp2_with fail
    refine HA.out.mono ?_
    rintro e w0 ⟨rfl, hc0⟩
    have HC0 := Lib.hid hc0
    clear hc0 HA HN
    go_wp2
    go_ret
    exact ⟨rfl, HC0.out⟩
  by_cases h3 : y < 0
  · go_enter Try.func6, Try.ntmps6
    go_wp2_with fail
    refine HA.out.mono ?_
    rintro e w0 ⟨rfl, hc0⟩
    have HC0 := Lib.hid hc0
    clear hc0 HA HN
    go_wp2
    go_ret
    exact ⟨rfl, HC0.out⟩
  by_cases h4 : 20 < y
  · go_enter Try.func6, Try.ntmps6
    go_wp2_with fail
    refine HA.out.mono ?_
    rintro e w0 ⟨rfl, hc0⟩
    have HC0 := Lib.hid hc0
    clear hc0 HA HN
    go_wp2
    go_ret
    exact ⟨rfl, HC0.out⟩
  obtain ⟨r, rfl⟩ := Int.eq_ofNat_of_zero_le (show 0 ≤ z by omega)
  obtain ⟨n, rfl⟩ := Int.eq_ofNat_of_zero_le (show 0 ≤ y by omega)
  have hr1 : 1 ≤ r := by omega
  have hr4 : r ≤ 4 := by omega
  have hn20 : n ≤ 20 := by omega
  go_enter Try.func6, Try.ntmps6
  go_wp2_with fail
  refine HA.out.mono ?_
  rintro e w0 ⟨rfl, hc0⟩
  have HC0 := Lib.hid hc0
  clear hc0 HA
  go_wp2_with fail
  refine (HN _).out.mono ?_
  rintro e w1 ⟨h, rfl, hd1, hc1, hf1⟩
  have HOP := Lib.hid (Hlog.opened (first := 0) (n := r) hd1 hf1 hc1 hr1 (by omega) (by show 0 + 4 * r ≤ (16 : Nat); omega) rfl)
  rw [show Dev.new (16 : Int).toNat = Dev.new 16 from rfl] at HOP
  clear hd1 hc1 hf1 HN
  go_wp2_with fail
  refine HOP.out.mono ?_
  rintro e w2 ⟨t0, rfl, hh2, _, hc2⟩
  have hlv := live_new 16 r hr1 (by omega) (by omega) (by omega)
  rw [opened_new] at hh2 hlv
  have HH2 : Hid (Hlog w0 h t0 (runR r 0) (Dev.new 16) w2) := hh2
  have HLV : Hid (Live (runR r 0) (Dev.new 16)) := hlv
  clear hh2 hc2 HOP hlv
  go_wp2
  go_loopg [9] n (fun gk vi wr => ∃ i : Nat, gk = n - i ∧ i ≤ n ∧ vi = .int .i64 ((i + 1 : Nat) : Int) ∧ Hid (∃ (t : LgH) (D : Dev), t.L = t0.L ∧ Hlog w0 h t (runR r i) D wr ∧ Live (runR r i) D))
  case atStart => exact ⟨0, rfl, Nat.zero_le _, rfl, t0, Dev.new 16, rfl, HH2.out, HLV.out⟩
  case round =>
    obtain ⟨i, rfl, hi, rfl, t, D, hL, HH, HLI⟩ := hrel
    by_cases hlt : i < n
    · obtain ⟨hput, D', lost, hsl, hlv', hlo⟩ := roundR hr1 hr4 (by omega) HLI
      have hii : ((i + 1 : Nat) : Int) ≤ (n : Int) := by omega
      have e1 : IntKind.u8.wrap ((i + 1 : Nat) : Int) = ((i + 1 : Nat) : Int) := IntWalk.u8_in _ (by omega)
      have e2 : IntKind.u8.wrap (97 + ((i + 1 : Nat) : Int)) = 97 + ((i + 1 : Nat) : Int) := IntWalk.u8_in _ (by omega)
      have hcv : ∀ W : World, (convert tBytes 9 (.slice (some ⟨W.heap.size, 0, none⟩) 1 1)).run Try.prog (W.alloc (.cells #[.int .u8 (97 + ((i : Int) + 1))] tU8)) = .ok (.string (keyR (i + 1))) (W.alloc (.cells #[.int .u8 (97 + ((i : Int) + 1))] tU8)) := fun W => by
        refine run_b2s _ _ 1 1 [UInt8.ofNat (97 + (i + 1))] Try.underlying31 Try.underlying5 Try.underlying9 tU8 ?_
        have := Rd.ofBlk (k := 1) (Blk.new W tU8 #[.int .u8 (97 + ((i : Int) + 1))]) (by simp)
        have e : ((UInt8.ofNat (97 + (i + 1))).toNat : Int) = 97 + ((i : Int) + 1) := by rw [UInt8.toNat_ofNat']; omega
        simp only [bys, List.map_cons, List.map_nil, e]
        simpa using this
      have HPUT := Lib.hid hput
      have HSL := Lib.hid hsl
      have HLV2 := Lib.hid hlv'
      have HLO := Lib.hid hlo
      have HH1 := Lib.hid HH
      have HLL := Lib.hid hL
      clear hput hsl hlv' hlo hL HH HLI HH2 HLV
      have e3 : ((UInt64.ofNat (i + 1)).toNat : Int) = (i : Int) + 1 := by rw [UInt64.toNat_ofNat']; omega
      have HIT : ∀ W, Hid (Calls Try.prog 33 #[.string (keyR (i + 1)), .int .u64 ((i : Int) + 1)] W fun e w' => e = .returned (itemV (itR (i + 1))) ∧ Chg No W w') := fun W => by
        have := it9_calls (keyR (i + 1)) (UInt64.ofNat (i + 1)) W
        rw [e3] at this
        exact this
      have HNM := Lib.hid (runR_ok hr1 hr4 (i := i + 1) (by omega)).1
      have HP := fun W => Lib.hid (fun hc : Chg No wr W => (HH1.out.chgNo hc).put (itR (i + 1)) (by show (1 : Nat) ≤ _; omega) (by show (1 : Nat) ≤ _; omega))
      rw [HPUT.out, HLL.out] at HP
      clear e3
      go_wp2_with fail
      refine (HIT _).out.mono ?_
      rintro e w3 ⟨rfl, hc3⟩
      have HC3 : Hid (Chg No wr w3) := (by (repeat (first | (with_reducible exact Chg.refl _ _) | (with_reducible assumption) | (with_reducible refine Chg.drewN ?_ _) | (with_reducible refine Chg.drew ?_) | (with_reducible refine Chg.alloc ?_ _) | (with_reducible refine Chg.setCell ?_ (by first | (left; simp [DevH.foot]; done) | (right; simp; done) | (right; simp; omega)) _))) : Chg No wr _).trans hc3
      clear hc3 HIT
      go_wp2_with fail
      refine ((HP _).out HC3.out).mono ?_
      rintro e w4 ⟨v4, t4, rfl, hp⟩
      have HH4 : Hid (Hlog w0 h t4 ((runR r i).add (itR (i + 1))) D w4) := hp.st
      have HL4 : Hid (t4.L = t0.L) := hp.L.trans HLL.out
      have HSE := Lib.hid HH4.out.shut
      rw [HSL.out, HL4.out] at HSE
      clear hp HP
      go_wp2_with fail
      refine HSE.out.mono ?_
      rintro e w5 ⟨v5, t5, rfl, hp⟩
      have HH5 : Hid (Hlog w0 h t5 (runR r (i + 1)) D' w5) := hp.st
      have HL5 : Hid (t5.L = t0.L) := hp.L.trans HL4.out
      have hlo5 : w5.ownsRow w4.heap.size tItem 5 v5 lost.length (its lost) := hp.lost
      have HNU := fun W => Lib.hid (fun hc : Chg No w5 W => gnum_calls (HH5.out.log.chgNo hc))
      rw [HL5.out, HNM.out] at HNU
      obtain ⟨A5, c5, rfl, hnc5, hrd5⟩ := own_slice hlo5
      clear hp HSE hlo5
      by_cases hri : r < i + 1
      · have hlo := HLO.out
        rw [if_pos hri] at hlo
        obtain ⟨y, rfl⟩ : ∃ y, lost = [y] := by
          match lost, hlo with
          | [y], _ => exact ⟨y, rfl⟩
          | [], h => simp at h
          | _ :: _ :: _, h => simp at h
        have hyv : y.ver.toNat = i + 1 - r := by simpa using hlo
        obtain ⟨g5, o5, eA5, hcl5⟩ := rd_at6 (k := 0) (x := y) (n := 1) hrd5 (by omega) rfl
        subst eA5
        have b1 : (r : Int) < (i : Int) + 1 := by omega
        have hyi : (y.ver.toNat : Int) = (i : Int) + 1 - (r : Int) := by omega
        go_wp2_with fail
        refine ((HNU _).out (Chg.refl _ _)).mono ?_
        rintro e w6 ⟨rfl, rfl⟩
        have ⟨y0, y1, y2, y3, y4⟩ := hcl5 w5 (Chg.refl _ _)
        rw [hyi] at y4
        have hg5 : 0 < 1 := by omega
        clear hyi hcl5 hyv
        go_wp2_with fail
        go_roundg (n - (i + 1))
        case measure => omega
        case rel => exact ⟨i + 1, rfl, by omega, by go_num, t5, D', HL5.out, HH5.out, HLV2.out⟩
      · have hlo := HLO.out
        rw [if_neg hri] at hlo
        obtain rfl : lost = [] := by simpa using hlo
        have b1 : ¬ (r : Int) < (i : Int) + 1 := by omega
        go_wp2_with fail
        refine ((HNU _).out (Chg.refl _ _)).mono ?_
        rintro e w6 ⟨rfl, rfl⟩
        go_wp2
        go_roundg (n - (i + 1))
        case measure => omega
        case rel => exact ⟨i + 1, rfl, by omega, by go_num, t5, D', HL5.out, HH5.out, HLV2.out⟩
    · obtain rfl : i = n := by omega
      have hok := (runR_ok hr1 hr4 (i := i) (by omega)).2.1
      have hlen : (runR r i).regs.length < 20 := by rw [runR_len]; omega
      have HIT := fun W => Lib.hid (fun hc : Chg No wr W => (HH.chgNo hc).items hlen)
      have HH1 := Lib.hid HH
      rw [hL, hok] at HIT
      have b0 : ¬ ((i + 1 : Nat) : Int) ≤ (i : Int) := by omega
      clear hlt hL HH HLI HH2 HLV hok hlen
      by_cases hri : r < i
      · have b1 : (r : Int) < (i : Int) := by omega
        rw [Nat.min_eq_right (by omega)] at HIT
        go_wp2_with fail
        refine ((HIT _).out (by (repeat (first | (with_reducible exact Chg.refl _ _) | (with_reducible assumption) | (with_reducible refine Chg.drewN ?_ _) | (with_reducible refine Chg.drew ?_) | (with_reducible refine Chg.alloc ?_ _) | (with_reducible refine Chg.setCell ?_ (by first | (left; simp [DevH.foot]; done) | (right; simp; done) | (right; simp; omega)) _))))).mono ?_
        rintro e w4 ⟨v4, rfl, ho4, hc4⟩
        obtain ⟨A4, c4, rfl, hn4, _⟩ := own_slice ho4
        have HC4 := Lib.hid hc4
        clear ho4 hc4
        go_wp2
        go_ret
        exact ⟨by simp, HC0.out.trans (HH1.out.chg.trans HC4.out)⟩
      · have b1 : ¬ (r : Int) < (i : Int) := by omega
        rw [Nat.min_eq_left (by omega)] at HIT
        go_wp2_with fail
        refine ((HIT _).out (by (repeat (first | (with_reducible exact Chg.refl _ _) | (with_reducible assumption) | (with_reducible refine Chg.drewN ?_ _) | (with_reducible refine Chg.drew ?_) | (with_reducible refine Chg.alloc ?_ _) | (with_reducible refine Chg.setCell ?_ (by first | (left; simp [DevH.foot]; done) | (right; simp; done) | (right; simp; omega)) _))))).mono ?_
        rintro e w4 ⟨v4, rfl, ho4, hc4⟩
        obtain ⟨A4, c4, rfl, hn4, _⟩ := own_slice ho4
        have HC4 := Lib.hid hc4
        clear ho4 hc4
        go_wp2
        go_ret
        exact ⟨by simp, HC0.out.trans (HH1.out.chg.trans HC4.out)⟩
end Go.Proofs.Ytcmobcbecbajiaa
