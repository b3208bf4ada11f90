/- ImageAnew: the walk. -/
import Derived.Test.YtinofdfjaopdcaaJBack
namespace Go.Proofs.Ytinofdfjaopdcaa
open Go.RowKit
attribute [local go_sem ↓] Go.wp_at_zero Go.wp_at_succ
set_option linter.unusedSimpArgs false
set_option linter.unusedVariables false

theorem DumpR.okay {D D' : Dev} {first pages : Int} {l : List Item} {p m : Nat} {er : Int} (h : DumpR D first pages l p m er D') (hD : D.Ok) (hm : D.may first pages = true) :
    D'.Ok ∧ D'.n = D.n ∧ (er = 0 ∧ goods l = true ∨ er = 1 ∧ goods l = false) := by
  cases hg : goods l with
  | true =>
    obtain ⟨e1, e2, e3, e4, e5, e6, e7⟩ := h.good hD hm hg
    exact ⟨e5, e6, .inl ⟨e1, rfl⟩⟩
  | false =>
    obtain ⟨_, _, e3, rfl⟩ := h.bad (by rw [hm, hg]; rfl)
    exact ⟨hD, rfl, .inr ⟨e3, rfl⟩⟩
theorem may_3_60 {D : Dev} (h : D.n = 70) : D.may 3 60 = true := may_of (f := 3) (p := 60) (by omega)
theorem new70_calls (w : World) : Calls Try.prog 16 #[.int .i64 70] w fun e w' => ∃ h : DevH, e = .returned (.tuple #[.pointer (some ⟨h.d, 0, none⟩), .int .i64 0]) ∧ DevAt w' h (Dev.new 70) ∧ Chg No w w' ∧ ∀ k, h.foot k → w.heap.size ≤ k := new_calls 70 w (by decide) (by decide)
theorem dump70_calls {w : World} {h : DevH} {D : Dev} (hd : DevAt w h D) (hD : D.Ok) (h70 : D.n = 70) (A : Option Addr) (n c : Nat) (l : List Item) (T : TypeId) (hn : l.length = n) (hr : Rd w T A (n * 5) (its l)) (hn2 : n ≤ 1000) :
    Calls Try.prog 17 #[.pointer (some ⟨h.d, 0, none⟩), .int .i64 3, .int .i64 60, .slice A n c] w fun e w' => ∃ (p m : Nat) (er : Int) (D' : Dev), e = .returned (.tuple #[.int .i64 p, .int .i64 m, .int .i64 er]) ∧
      Chg h.foot w w' ∧ DevAt w' h D' ∧ D'.Ok ∧ D'.n = 70 ∧ m ≤ n ∧ (er = 1 ∨ (er = 0 ∧ p ≤ 60 ∧ D'.load 3 p = (l.take m, 0))) := by
  refine (dump_calls hd 3 60 (by decide) (by decide) A n c l T hn hr hn2).mono ?_
  rintro e w' ⟨p, m, er, D', rfl, hd', hc, hR⟩
  have hm := may_3_60 h70
  obtain ⟨o1, o2, o3⟩ := hR.okay hD hm
  refine ⟨p, m, er, D', rfl, hc, hd', o1, o2.trans h70, by rw [← hn]; exact hR.sized, ?_⟩
  rcases o3 with ⟨e0, hg⟩ | ⟨e1, _⟩
  · obtain ⟨_, _, _, e4, _⟩ := hR.good hD hm hg
    exact .inr ⟨e0, by omega, hR.back hD hm hg (by omega)⟩
  · exact .inl e1

set_option maxRecDepth 100000 in
set_option maxHeartbeats 2000000 in
theorem janew_calls (A A2 : Option Addr) (n c n2 c2 : Nat) (l l2 : List Item) (t t2 : TypeId) (w : World) (hn : l.length = n) (hr : Rd w t A (n * 5) (its l)) (hn2 : l2.length = n2) (hnc2 : n2 ≤ c2) (hr2 : Rd w t2 A2 (n2 * 5) (its l2)) :
    Calls Try.prog 5 #[.slice A n c, .slice A2 n2 c2] w fun e w' => e = .returned (.bool true) ∧ Chg No w w' := by
  have HAW := Lib.hid (awake15_calls w)
  have HN := fun W => Lib.hid (new70_calls W)
  have HR := Lib.hid hr
  have HLN := Lib.hid hn
  have HR2 := Lib.hid hr2
  have HLN2 := Lib.hid hn2
  clear hr hn hr2 hn2
  by_cases h1 : 20 < n
  · have b1 : decide ((20 : Int) < (n : Int)) = true := by simp; omega
    have g1 : (20 : Int) < (n : Int) := by omega
    clear h1 HN
    go_enter Try.func5, Try.ntmps5
    go_wp2_with fail
    refine HAW.out.mono ?_
    rintro e w0 ⟨rfl, hc0⟩
    go_wp2
    go_ret
    exact ⟨rfl, hc0⟩
  · have b1 : decide ((20 : Int) < (n : Int)) = false := by simp; omega
    have g1 : ¬ (20 : Int) < (n : Int) := by omega
    by_cases h2 : 20 < n2
    · have b2 : decide ((20 : Int) < (n2 : Int)) = true := by simp; omega
      have g2 : (20 : Int) < (n2 : Int) := by omega
      clear h1 h2 HN
      go_enter Try.func5, Try.ntmps5
      go_wp2_with fail
      refine HAW.out.mono ?_
      rintro e w0 ⟨rfl, hc0⟩
      go_wp2
      go_ret
      exact ⟨rfl, hc0⟩
    · have b2 : decide ((20 : Int) < (n2 : Int)) = false := by simp; omega
      have g2 : ¬ (20 : Int) < (n2 : Int) := by omega
      have hn20 : n ≤ 20 := by omega
      have hn220 : n2 ≤ 20 := by omega
      clear h1 h2
      go_enter Try.func5, Try.ntmps5
      go_wp2_with fail
      refine HAW.out.mono ?_
      rintro e w0 ⟨rfl, hc0⟩
      have HC0 := Lib.hid hc0
      clear hc0 HAW
      go_wp2_with fail
      refine (HN _).out.mono ?_
      rintro e w1 ⟨h, rfl, hd1, hc1, hf1⟩
      have HC1 := Lib.hid (HC0.out.trans hc1)
      have HF1 : Hid (∀ k, h.foot k → w.heap.size ≤ k) := fun k hk => Nat.le_trans HC0.out.size (hf1 k hk)
      have HDU := Lib.hid (dump70_calls hd1 (new_Ok 70) rfl A n c l t HLN.out (HR.out.chg HC1.out (fun _ _ _ _ h => h)) (by omega))
      clear hd1 hc1 hf1 HN
      go_wp2_with fail
      refine HDU.out.mono ?_
      rintro e w2 ⟨p, m, er, D2, rfl, hc2, hd2, ho2, h702, hm2, hcase⟩
      have HC2 : Hid (Chg No w w2) := HC1.out.then hc2 (fun i hi hT => by have := HF1.out i hT; omega)
      have HDU2 := Lib.hid (dump70_calls hd2 ho2 h702 A2 n2 c2 l2 t2 HLN2.out (HR2.out.chg HC2.out (fun _ _ _ _ h => h)) (by omega))
      have he : er = 0 ∨ er = 1 := by rcases hcase with h | h; exact .inr h; exact .inl h.1
      clear hcase hd2 ho2 h702 hc2 HDU hm2
      go_wp2_with fail
      refine HDU2.out.mono ?_
      rintro e w3 ⟨p3, m3, er3, D3, rfl, hc3, hd3, ho3, h703, hm3, hcase⟩
      have HC3 : Hid (Chg No w w3) := HC2.out.then hc3 (fun i hi hT => by have := HF1.out i hT; omega)
      have HD3 := Lib.hid hd3
      have HCS := Lib.hid hcase
      clear hcase hd3 hc3 ho3 h703 HDU2
      rcases he with rfl | rfl
      rotate_left
      · rcases HCS.out with rfl | ⟨rfl, _, _⟩
        all_goals
          clear HCS
          go_wp2
          go_ret
          exact ⟨rfl, HC3.out⟩
      rcases HCS.out with rfl | ⟨rfl, hp3, hl3⟩
      · clear HCS
        go_wp2
        go_ret
        exact ⟨rfl, HC3.out⟩
      have hld := load_calls HD3.out 3 (p3 : Int) (by decide) (by omega)
      rw [hl3] at hld
      have HLD := Lib.hid hld
      obtain ⟨A9, hs9, hd9⟩ := sub_slice_h (P := Try.prog) Try.underlying33 ti_item A2 n2 c2 m3 (by omega)
      have hlt : (l2.take m3).length = m3 := by rw [List.length_take]; have := HLN2.out; omega
      have HLT := Lib.hid hlt
      have HR9 : ∀ W, Hid (Chg No w W → Rd W t2 A9 (m3 * 5) (its (l2.take m3))) := fun W => fun hc => by rw [its_take]; exact hd9 W t2 (its l2) (HR2.out.chg hc (fun _ _ _ _ h => h)) hm3
      clear hl3 hld hlt hd9 HCS
      go_wp2_with fail
      refine HLD.out.mono ?_
      rintro e w4 ⟨v4, rfl, ho4, hd4, hc4⟩
      have HC4 : Hid (Chg No w w4) := HC3.out.then hc4 (fun i hi hT => by have := HF1.out i hT; omega)
      simp only [HLT.out] at ho4
      obtain ⟨A4, c4, rfl, _, hr4⟩ := own_slice ho4
      have HIT := Lib.hid (items15_calls tItem t2 A4 A9 c4 c2 (l2.take m3) (l2.take m3) w4 (by rw [HLT.out]; exact hr4) (by rw [HLT.out]; exact (HR9 w4).out HC4.out) (by rw [HLT.out]; omega) (by rw [HLT.out]; omega))
      rw [HLT.out, decide_eq_true rfl] at HIT
      clear ho4 hd4 hc4 hr4 hm3
      go_wp2_with fail
      refine HIT.out.mono ?_
      rintro e w5 ⟨rfl, hc5⟩
      have HC5 := Lib.hid (HC4.out.trans hc5)
      clear hc5
      go_wp2
      go_ret
      exact ⟨rfl, HC5.out⟩
end Go.Proofs.Ytinofdfjaopdcaa
