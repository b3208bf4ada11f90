/- BucketKnown: the walk. -/
import Derived.Test.YtinofdfjaopdcaaLawK
namespace Go.Proofs.Ytinofdfjaopdcaa
open Go.RowKit
attribute [local go_sem ↓] Go.wp_at_zero Go.wp_at_succ
set_option linter.unusedSimpArgs false
set_option linter.unusedVariables false

theorem bk_new (w : World) : Calls Try.prog 16 #[.int .i64 2] w fun e w' => ∃ h : DevH, e = .returned (.tuple #[.pointer (some ⟨h.d, 0, none⟩), .int .i64 0]) ∧ DevAt w' h (Dev.new 2) ∧ Chg No w w' ∧ ∀ k, h.foot k → w.heap.size ≤ k := new_calls 2 w (by decide) (by decide)
theorem bk_bad1 {w : World} {h : DevH} (hd : DevAt w h (Dev.new 2)) : Calls Try.prog 25 #[.pointer (some ⟨h.d, 0, none⟩), .int .i64 1, .int .i64 2] w fun e w' => e = .returned (.tuple #[.pointer none, .int .i64 1]) ∧ Chg No w w' :=
  open_bad hd 1 2 (by decide) (by decide) (by decide) (by decide)
theorem bk_bad0 {w : World} {h : DevH} (hd : DevAt w h (Dev.new 2)) : Calls Try.prog 25 #[.pointer (some ⟨h.d, 0, none⟩), .int .i64 0, .int .i64 0] w fun e w' => e = .returned (.tuple #[.pointer none, .int .i64 1]) ∧ Chg No w w' :=
  open_bad0 hd 0 (by decide)
def kB0 : Sto := Sto.open_ (Dev.new 2) ((0 : Nat) : Int) 2
theorem bk_open {w : World} {h : DevH} (hd : DevAt w h (Dev.new 2)) : Calls Try.prog 25 #[.pointer (some ⟨h.d, 0, none⟩), .int .i64 0, .int .i64 2] w fun e w' => ∃ t : StoH, e = .returned (.tuple #[.pointer (some ⟨t.s, 0, none⟩), .int .i64 0]) ∧
      Han w' h t (Dev.new 2) kB0 [[], []] ∧ Chg h.foot w w' ∧ (∀ p ∈ t.ps, w.heap.size ≤ p.2) := hopen 2 2 hd (by decide) (by decide) (by decide)
theorem bk_drop {w : World} {h : DevH} {t : StoH} (H : Han w h t (Dev.new 2) kB0 [[], []]) :
    Calls Try.prog 27 #[.pointer (some ⟨t.s, 0, none⟩), .string kA] w fun e w' => e = .returned (.int .i64 5) ∧ Chg (Own h t) w w' := by
  have hl : [([] : List Item), []][kB0.no kA]? = some [] := by
    have := H.ok.no_ kA
    match h : kB0.no kA with
    | 0 => rfl
    | 1 => rfl
    | n + 2 => rw [h] at this; exact absurd this (by simp)
  refine (hdrop H kA (by decide) hl).mono ?_
  rintro e w' ⟨rfl, _, hc⟩
  exact ⟨by rw [if_pos (by rfl)], hc⟩

set_option maxRecDepth 100000 in
set_option maxHeartbeats 4000000 in
theorem known_calls (w : World) : Calls Try.prog 7 #[] w fun e w' => e = .returned (.bool true) ∧ Chg No w w' := by
  have HAW := Lib.hid (awake_calls w)
  have HN := fun W => Lib.hid (bk_new W)
  have hmk : ∀ W : World, (Instr.makeSlice tBytes (.int .i64 88) (.int .i64 88)).run Try.prog W = .ok (.slice (some ⟨W.heap.size, 0, none⟩) 88 88) (W.alloc (.cells (mk 88 (.int .u8 0)) tU8)) := fun W => run_mk W Try.underlying40 ti_u8 rfl 88 (by decide) (by decide)
  have hcv : ∀ W : World, (convert tBytes 9 (.slice (some ⟨W.heap.size, 0, none⟩) 88 88)).run Try.prog (W.alloc (.cells (mk 88 (.int .u8 0)) tU8)) = .ok (.string xLong.val) (W.alloc (.cells (mk 88 (.int .u8 0)) tU8)) := fun W => by
    refine run_b2s (W.alloc (.cells (mk 88 (.int .u8 0)) tU8)) (some ⟨W.heap.size, 0, none⟩) 88 88 (List.replicate 88 0) Try.underlying40 Try.underlying5 Try.underlying9 tU8 ?_
    have := Rd.ofBlk (k := 88) (Blk.new W tU8 (mk 88 (.int .u8 0))) (by simp [mk])
    simpa [mk, bys] using this
  go_enter Try.func7, Try.ntmps7
  go_wp2_with fail
  refine HAW.out.mono ?_
  rintro e w0 ⟨rfl, hc0⟩
  have HC0 := Lib.hid hc0
  clear hc0 HAW
  go_wp2_with fail
  refine (HN _).out.mono ?_
  rintro e w1 ⟨h, rfl, hd1, hc1, hf1⟩
  have HD1 := Lib.hid hd1
  have HC1 := Lib.hid (HC0.out.trans hc1)
  have HF1 : Hid (∀ k, h.foot k → w.heap.size ≤ k) := fun k hk => Nat.le_trans HC0.out.size (hf1 k hk)
  clear hd1 hc1 hf1 HN
  go_wp2_with fail
  refine (bk_bad1 HD1.out).mono ?_
  rintro e w2 ⟨rfl, hc2⟩
  have HD2 := Lib.hid (HD1.out.chgNo hc2)
  have HC2 := Lib.hid (HC1.out.trans hc2)
  clear hc2
  go_wp2_with fail
  refine (bk_bad0 HD2.out).mono ?_
  rintro e w3 ⟨rfl, hc3⟩
  have HD3 := Lib.hid (HD2.out.chgNo hc3)
  have HC3 := Lib.hid (HC2.out.trans hc3)
  clear hc3
  go_wp2_with fail
  refine (bk_open HD3.out).mono ?_
  rintro e w4 ⟨t, rfl, hh4, hc4, hq4⟩
  have HH4 := Lib.hid hh4
  have HOW : Hid (∀ k, Own h t k → w.heap.size ≤ k) := by
    rintro k (hk | ⟨p, hp, rfl⟩)
    · exact HF1.out k hk
    · exact Nat.le_trans HC3.out.size (hq4 p hp)
  have HC4 : Hid (Chg No w w4) := HC3.out.then hc4 (fun i hi hT => by have := HF1.out i hT; omega)
  clear hh4 hc4 hq4
  go_wp2_with fail
  refine (hput_bad HH4.out Item.zero zero_bad).mono ?_
  rintro e w5 ⟨rfl, hh5, hc5⟩
  have HH5 := Lib.hid hh5
  have HC5 : Hid (Chg No w w5) := HC4.out.then hc5 (fun i hi hT => by have := HOW.out i hT; omega)
  clear hh5 hc5
  have HP5 := fun W => Lib.hid (fun hc : Chg No w5 W => hput_bad (HH5.out.chgNo hc) xLong xLong_bad)
  go_wp2_with fail
  refine ((HP5 _).out (by (repeat (first | (with_reducible exact Chg.refl _ _) | (with_reducible assumption) | (with_reducible refine Chg.drewN ?_ _) | (with_reducible refine Chg.drew ?_) | (with_reducible refine Chg.alloc ?_ _) | (with_reducible refine Chg.setCell ?_ (by first | (left; simp [DevH.foot]; done) | (right; simp; done) | (right; simp; omega)) _))))).mono ?_
  rintro e w6 ⟨rfl, hh6, hc6⟩
  have HH6 := Lib.hid hh6
  have HC6 : Hid (Chg No w w6) := (HC5.out.alloc _).then hc6 (fun i hi hT => by have := HOW.out i hT; omega)
  clear hh6 hc6 hmk hcv HP5
  have HDR := fun W => Lib.hid (fun hc : Chg No w6 W => bk_drop (HH6.out.chgNo hc))
  go_wp2_with fail
  refine ((HDR _).out (by (repeat (first | (with_reducible exact Chg.refl _ _) | (with_reducible assumption) | (with_reducible refine Chg.drewN ?_ _) | (with_reducible refine Chg.drew ?_) | (with_reducible refine Chg.alloc ?_ _) | (with_reducible refine Chg.setCell ?_ (by first | (left; simp [DevH.foot]; done) | (right; simp; done) | (right; simp; omega)) _))))).mono ?_
  rintro e w7 ⟨rfl, hc7⟩
  have HC7 : Hid (Chg No w w7) := HC6.out.then hc7 (fun i hi hT => by have := HOW.out i hT; omega)
  clear hc7
  go_wp2
  go_ret
  exact ⟨rfl, HC7.out⟩
end Go.Proofs.Ytinofdfjaopdcaa
