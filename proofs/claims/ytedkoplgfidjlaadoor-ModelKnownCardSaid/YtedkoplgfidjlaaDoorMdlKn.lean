/- ModelKnown, walked. -/
import Derived.Test.YtedkoplgfidjlaaDoorMdlAw
namespace Go.Proofs.YtedkoplgfidjlaaDoor
open Go.RowKit
attribute [local go_sem ↓] Go.wp_at_zero Go.wp_at_succ
set_option linter.unusedSimpArgs false
set_option linter.unusedVariables false

section
variable {w w' : World} {m M : Nat}
theorem items_none (h : Mp w m M []) :
    Calls Tryd.prog 10 #[.pointer (some ⟨m, 0, none⟩), .int .i64 0] w fun e w' => (∃ A c, e = .returned (.slice A 0 c)) ∧ Chg No w w' := by
  have := mitems_calls h (by decide) 0
  rw [mitems_nil] at this
  refine this.mono ?_
  rintro e w' ⟨v, rfl, ho, hc⟩
  obtain ⟨A, c, rfl, _, _⟩ := own_slice ho
  exact ⟨⟨A, c, rfl⟩, hc⟩
theorem Mp.lineM {w w' : World} {m M : Nat} {es : Its} {A : Option Addr} {k : Nat} {xs : List Value} (h : Mp w m M es) (hr : Rd w tAns A k xs) (hc : Chg (fun k => k = M) w w') : Rd w' tAns A k xs :=
  hr.chg hc (fun g cur fz hg hgM => by
    subst hgM
    exact h.map.ne_blk hg rfl)
set_option maxRecDepth 100000 in
set_option maxHeartbeats 8000000 in
theorem mknown_calls (hg : Glob w) :
    Calls Tryd.prog 3 #[] w fun e w' => e = .returned (.bool true) ∧ Chg No w w' := by
  have HG := Lib.hid hg
  have HA := Lib.hid (awake23_calls hg)
  have heq1 := fun W => run_eql_ans sEnd W
  have heq2 := fun W => run_eql_ans sError W
  simp only [ansc, sEnd, sError] at heq1 heq2
  clear hg
  go_enter Tryd.func3, Tryd.ntmps3
  go_wp2_with fail
  refine HA.out.mono ?_
  rintro e w0 ⟨rfl, hc0⟩
  have HC0 := Lib.hid hc0
  have HN := Lib.hid (mnew_calls w0)
  clear hc0 HA
  go_wp2_with fail
  refine HN.out.mono ?_
  rintro e w1 ⟨m, M, rfl, hm, h1, h2, h3, hc⟩
  have HC1 := Lib.hid (HC0.out.trans hc)
  have HNE := Lib.hid (And.intro h3 (And.intro (Nat.le_trans HC0.out.size h1) (Nat.le_trans HC0.out.size h2)))
  have HD := Lib.hid (do_end_calls (HG.out.chgNo (HC1.out.alloc (.cells #[.string kA] tStr))) (hm.chgNo ((Chg.refl No w1).alloc _)) h3 (A := some ⟨w1.heap.size, 0, none⟩) ⟨rd_one w1 tStr (.string kA), rfl, by decide⟩ 1)
  clear hm h1 h2 h3 hc HN
  go_wp2_with fail
  refine HD.out.mono ?_
  rintro e w2 ⟨⟨A1, c1, rfl, hl, hm2⟩, hc2⟩
  have HL2 := Lib.hid hl
  have HC2 : Hid (Chg (fun k => k = M) w w2) := (HC1.out.alloc (.cells #[.string kA] tStr)).andM hc2
  have hgM : ∀ k, k < 7 → ¬ k = M := fun k hk he => by have := HNE.out.2.2; have := HG.out.pos; omega
  have HGM := Lib.hid hgM
  have HM2 := Lib.hid hm2
  have HD := Lib.hid (do_seven_calls (HG.out.chg HC2.out hgM) hm2 HNE.out.1)
  clear hl hc2 hm2 hgM
  go_wp2_with fail
  refine HD.out.mono ?_
  rintro e w3 ⟨⟨A2, c2, rfl, hl, hm3⟩, hc3⟩
  have HL3 := Lib.hid hl
  have HL23 := Lib.hid (HM2.out.lineM HL2.out hc3)
  have HC3 : Hid (Chg (fun k => k = M) w w3) := HC2.out.trans hc3
  have HM3 := Lib.hid hm3
  have HD := Lib.hid (do_quit_calls (HG.out.chg HC3.out HGM.out) hm3 HNE.out.1)
  clear hl hc3 hm3 HL2
  go_wp2_with fail
  refine HD.out.mono ?_
  rintro e w4 ⟨⟨rfl, hm4⟩, hc4⟩
  have HL4 := Lib.hid (HM3.out.lineM HL3.out hc4)
  have HL24 := Lib.hid (HM3.out.lineM HL23.out hc4)
  have HC4 : Hid (Chg (fun k => k = M) w w4) := HC3.out.trans hc4
  have HIT := Lib.hid (items_none hm4)
  obtain ⟨g, off, rfl, hgl, hcc⟩ := HL24.out.at_ (j := 0) (by decide)
  have a0 := hcc 0 _ rfl
  have a1 := hcc 1 _ rfl
  have a2 := hcc 2 _ rfl
  have a3 := hcc 3 _ rfl
  have a4 := hcc 4 _ rfl
  have a5 := hcc 5 _ rfl
  have a6 := hcc 6 _ rfl
  obtain ⟨g2, off2, rfl, hgl2, hcc2⟩ := HL4.out.at_ (j := 0) (by decide)
  have b0 := hcc2 0 _ rfl
  have b1 := hcc2 1 _ rfl
  have b2 := hcc2 2 _ rfl
  have b3 := hcc2 3 _ rfl
  have b4 := hcc2 4 _ rfl
  have b5 := hcc2 5 _ rfl
  have b6 := hcc2 6 _ rfl
  simp only [sEnd, sError, Nat.add_zero] at a0 a1 a2 a3 a4 a5 a6 b0 b1 b2 b3 b4 b5 b6
  have HEND : Hid (Chg No w w4) := HC4.out.mono (fun k hk hkM => by
    have := HNE.out.2.2
    omega)
  clear hm4 hc4 hcc hcc2 HL3 HL23 HL4 HL24 HD
  go_wp2_with fail
  refine HIT.out.mono ?_
  rintro e w5 ⟨⟨A5, c5, rfl⟩, hc5⟩
  have HC5 := Lib.hid hc5
  clear hc5
  go_wp2_with fail
  go_ret
  exact ⟨rfl, HEND.out.trans HC5.out⟩
end
end Go.Proofs.YtedkoplgfidjlaaDoor
