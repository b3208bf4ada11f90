/- What the document tells of one key: awake, walked. -/
import Derived.Test.YtedkoplgfidjlaaDoorMdlP
import Derived.Test.YtedkoplgfidjlaaDoorMdlS
namespace Go.Proofs.YtedkoplgfidjlaaDoor
open Go.RowKit
attribute [local go_sem ↓] Go.wp_at_zero Go.wp_at_succ
set_option linter.unusedSimpArgs false
set_option linter.unusedVariables false

def s1 : ByteArray := ⟨#[49]⟩
def itA : Item := { key := kA, val := s1, flags := 0, exp := 0, ver := 1 }
section
variable {w w' : World} {m M : Nat}
set_option maxRecDepth 100000 in
theorem do_set_calls (hg : Glob w) (h : Mp w m M []) (hmM : m ≠ M) {A : Option Addr} (hk : KeysAt w A 1 [kA]) (cp : Nat) :
    Calls Tryd.prog 9 #[.pointer (some ⟨m, 0, none⟩), .agg #[.string ⟨#[115, 116, 111, 114, 101]⟩, .string ⟨#[115, 101, 116]⟩, .slice A 1 cp, .string ⟨#[49]⟩, .int .u32 0, .int .i64 0, .int .u64 0, .int .u64 0, .bool false, .bool false, .bool false, .bool false], .int .i64 5, .int .u64 1] w fun e w' => (∃ A' c', e = .returned (.slice A' 1 c') ∧ Rd w' tAns A' 7 (ansc sStored).toList ∧ Mp w' m M [(kA, itA)]) ∧ Chg (fun k => k = M) w w' := by
  have := do_calls hg h hmM ⟨kStore, sSet, [kA], s1, 0, 0, 0, 0, false, false, false, false⟩ hk cp ⟨by decide, by decide⟩ 5 ⟨by decide, by decide⟩ 1
  refine Calls.mono this ?_
  rintro e w' ⟨⟨u, rfl, es', hm, _, hx⟩, hc⟩
  obtain ⟨⟨A', c', rfl, hl⟩, t, ht, rfl⟩ := hx ⟨rfl, rfl, by decide⟩
  obtain rfl := ht rfl
  exact ⟨⟨A', c', rfl, hl, hm⟩, hc⟩
set_option maxRecDepth 100000 in
theorem do_end_calls (hg : Glob w) (h : Mp w m M []) (hmM : m ≠ M) {A : Option Addr} (hk : KeysAt w A 1 [kA]) (cp : Nat) :
    Calls Tryd.prog 9 #[.pointer (some ⟨m, 0, none⟩), .agg #[.string ⟨#[103, 101, 116]⟩, .string ⟨#[]⟩, .slice A 1 cp, .string ⟨#[]⟩, .int .u32 0, .int .i64 0, .int .u64 0, .int .u64 0, .bool false, .bool false, .bool false, .bool false], .int .i64 0, .int .u64 1] w fun e w' => (∃ A' c', e = .returned (.slice A' 1 c') ∧ Rd w' tAns A' 7 (ansc sEnd).toList ∧ Mp w' m M []) ∧ Chg (fun k => k = M) w w' := by
  have := do_calls hg h hmM ⟨kGet, ⟨#[]⟩, [kA], ⟨#[]⟩, 0, 0, 0, 0, false, false, false, false⟩ hk cp ⟨by decide, by decide⟩ 0 ⟨by decide, by decide⟩ 1
  refine Calls.mono this ?_
  rintro e w' ⟨⟨u, rfl, es', hm, _, hx⟩, hc⟩
  obtain ⟨⟨A', c', rfl, hl⟩, rfl⟩ := hx ⟨rfl, rfl⟩
  exact ⟨⟨A', c', rfl, hl, hm⟩, hc⟩
set_option maxRecDepth 100000 in
theorem do_seven_calls (hg : Glob w) (h : Mp w m M []) (hmM : m ≠ M) :
    Calls Tryd.prog 9 #[.pointer (some ⟨m, 0, none⟩), .agg #[.string ⟨#[115, 101, 118, 101, 110]⟩, .string ⟨#[]⟩, .slice none 0 0, .string ⟨#[]⟩, .int .u32 0, .int .i64 0, .int .u64 0, .int .u64 0, .bool false, .bool false, .bool false, .bool false], .int .i64 0, .int .u64 1] w fun e w' => (∃ A' c', e = .returned (.slice A' 1 c') ∧ Rd w' tAns A' 7 (ansc sError).toList ∧ Mp w' m M []) ∧ Chg (fun k => k = M) w w' := by
  have := do_calls hg h hmM ⟨⟨#[115, 101, 118, 101, 110]⟩, ⟨#[]⟩, [], ⟨#[]⟩, 0, 0, 0, 0, false, false, false, false⟩ (keysAt_nil w) 0 ⟨by decide, by decide⟩ 0 ⟨by decide, by decide⟩ 1
  refine Calls.mono this ?_
  rintro e w' ⟨⟨u, rfl, es', hm, _, hx⟩, hc⟩
  obtain ⟨⟨A', c', rfl, hl⟩, rfl⟩ := hx
  exact ⟨⟨A', c', rfl, hl, hm⟩, hc⟩
set_option maxRecDepth 100000 in
theorem do_quit_calls (hg : Glob w) (h : Mp w m M []) (hmM : m ≠ M) :
    Calls Tryd.prog 9 #[.pointer (some ⟨m, 0, none⟩), .agg #[.string ⟨#[119, 111, 114, 100]⟩, .string ⟨#[113, 117, 105, 116]⟩, .slice none 0 0, .string ⟨#[]⟩, .int .u32 0, .int .i64 0, .int .u64 0, .int .u64 0, .bool false, .bool false, .bool false, .bool false], .int .i64 0, .int .u64 1] w fun e w' => (e = .returned (.slice none 0 0) ∧ Mp w' m M []) ∧ Chg (fun k => k = M) w w' := by
  have := do_calls hg h hmM ⟨kWord, sQuit, [], ⟨#[]⟩, 0, 0, 0, 0, false, false, false, false⟩ (keysAt_nil w) 0 ⟨by decide, by decide⟩ 0 ⟨by decide, by decide⟩ 1
  refine Calls.mono this ?_
  rintro e w' ⟨⟨u, rfl, es', hm, _, hx⟩, hc⟩
  obtain ⟨rfl, rfl⟩ := hx rfl
  exact ⟨⟨rfl, hm⟩, hc⟩
set_option maxRecDepth 100000 in
theorem key_get_calls (h : Mp w m M [(kA, itA)]) (hmM : m ≠ M) :
    Calls Tryd.prog 17 #[.pointer (some ⟨m, 0, none⟩), .agg #[.string ⟨#[103, 101, 116]⟩, .string ⟨#[]⟩, .slice none 0 0, .string ⟨#[]⟩, .int .u32 0, .int .i64 0, .int .u64 0, .int .u64 0, .bool false, .bool false, .bool false, .bool false], .string ⟨#[97]⟩, .int .i64 5, .int .u64 2] w fun e w' => (∃ A' c', e = .returned (.slice A' 1 c') ∧ Mp w' m M [(kA, itA)]) ∧ Chg (fun k => k = M) w w' := by
  have := mkey_calls h hmM ⟨kGet, ⟨#[]⟩, [], ⟨#[]⟩, 0, 0, 0, 0, false, false, false, false⟩ (ks := []) (wc := false) (wt := false) (exp := 0) rfl (keysAt_nil w) 0 ⟨by decide, by decide⟩ kA 5 ⟨by decide, by decide⟩ 2
  refine Calls.mono this ?_
  rintro e w' ⟨⟨u, rfl, hx⟩, hc⟩
  rcases hx with ⟨h1, _⟩ | ⟨x, es', _, ⟨g, c, rfl, _⟩, hm, hw, _⟩
  · exact absurd h1 (by decide)
  · obtain rfl := hw rfl
    exact ⟨⟨_, _, rfl, hm⟩, hc⟩
set_option maxRecDepth 100000 in
theorem run_eql_ans (txt : ByteArray) (W : World) : (binOp .eql tAns (.agg (ansc txt)) (.agg (ansc txt))).run Tryd.prog W = .ok (.bool true) W := by
  rw [run_eql_struct, show (10000 : Nat) = 9999 + 1 from rfl, run_equalIn_agg W 9999 tAns _ _ (by kernel_rfl) (by kernel_rfl)]
  simp [ansc, go_sem, Program.fieldsOf, Tryd.underlying33, Op.eqFields]
theorem mitems_one : (mitems [(kA, itA)] 5).length = 1 := by
  have : skeys [(kA, itA)] = [kA.data.toList] := by simp [skeys, akeys]
  unfold mitems
  rw [this]
  rfl
theorem mitems_nil (now : Int) : mitems [] now = [] := by simp [mitems, skeys, akeys]
theorem get_there (h : Mp w m M [(kA, itA)]) :
    Calls Tryd.prog 14 #[.pointer (some ⟨m, 0, none⟩), .string ⟨#[97]⟩, .int .i64 5] w fun e w' => e = .returned (.tuple #[.agg #[.string ⟨#[97]⟩, .string ⟨#[49]⟩, .int .u32 0, .int .i64 0, .int .u64 1], .bool true]) ∧ Chg No w w' := mget_calls h kA 5
theorem get_gone (h : Mp w m M []) :
    Calls Tryd.prog 14 #[.pointer (some ⟨m, 0, none⟩), .string ⟨#[97]⟩, .int .i64 5] w fun e w' => e = .returned (.tuple #[itemV Item.zero, .bool false]) ∧ Chg No w w' := mget_calls h kA 5
theorem lose_one (h : Mp w m M [(kA, itA)]) (hmM : m ≠ M) :
    Calls Tryd.prog 15 #[.pointer (some ⟨m, 0, none⟩), .string ⟨#[97]⟩] w fun e w' => e = .returned (.tuple #[]) ∧ Mp w' m M [] ∧ Chg (fun k => k = M) w w' := mlose_calls h hmM kA
theorem eql_one (W : World) : (binOp .eql tItem (.agg #[.string ⟨#[97]⟩, .string ⟨#[49]⟩, .int .u32 0, .int .i64 0, .int .u64 1]) (.agg #[.string ⟨#[97]⟩, .string ⟨#[49]⟩, .int .u32 0, .int .i64 0, .int .u64 1])).run Tryd.prog W = .ok (.bool true) W := by
  have := run_eql_item itA itA W
  rw [decide_eq_true rfl] at this
  exact this
set_option maxRecDepth 100000 in
set_option maxHeartbeats 8000000 in
theorem awake23_calls (hg : Glob w) :
    Calls Tryd.prog 7 #[] w fun e w' => e = .returned (.bool true) ∧ Chg No w w' := by
  have HG := Lib.hid hg
  have HN := Lib.hid (mnew_calls w)
  have heq := eql_one
  have hean := fun W => run_eql_ans sStored W
  simp only [ansc, sStored] at hean
  clear hg
  go_enter Tryd.func7, Tryd.ntmps7
  go_wp2_with fail
  refine HN.out.mono ?_
  rintro e w1 ⟨m, M, rfl, hm, h1, h2, h3, hc⟩
  have HC1 := Lib.hid hc
  have HNE := Lib.hid (And.intro h3 (And.intro h1 h2))
  have HD := Lib.hid (do_set_calls (HG.out.chgNo (hc.alloc (.cells #[.string kA] tStr))) (hm.chgNo ((Chg.refl No w1).alloc _)) h3 (A := some ⟨w1.heap.size, 0, none⟩) ⟨rd_one w1 tStr (.string kA), rfl, by decide⟩ 1)
  clear hm h1 h2 h3 hc HN HG
  go_wp2_with fail
  refine HD.out.mono ?_
  rintro e w2 ⟨⟨A1, c1, rfl, hl, hm2⟩, hc2⟩
  have HL2 := Lib.hid hl
  have HC2 : Hid (Chg (fun k => k = M) w w2) := (HC1.out.alloc (.cells #[.string kA] tStr)).andM hc2
  have HM2 := Lib.hid hm2
  have HGT := Lib.hid (get_there hm2)
  clear hl hc2 hm2 HD
  go_wp2_with fail
  refine HGT.out.mono ?_
  rintro e w3 ⟨rfl, hc3⟩
  have HB3 := Lib.hid (Blk.new w3 tItem #[.string ⟨#[97]⟩, .string ⟨#[49]⟩, .int .u32 0, .int .i64 0, .int .u64 1])
  have HC23 := Lib.hid (hc3.alloc (.cells #[.string ⟨#[97]⟩, .string ⟨#[49]⟩, .int .u32 0, .int .i64 0, .int .u64 1] tItem))
  have HM3 := Lib.hid (HM2.out.chgNo HC23.out)
  have HKY := Lib.hid (key_get_calls HM3.out HNE.out.1)
  have HB3LT : Hid (M < w3.heap.size) := Nat.lt_of_lt_of_le HM2.out.map.lt hc3.size
  clear hc3 HGT
  go_wp2_with fail
  refine HKY.out.mono ?_
  rintro e w4 ⟨⟨A4, c4, rfl, hm4⟩, hc4⟩
  have HC4 := Lib.hid (HC23.out.andM hc4)
  have HM4 := Lib.hid hm4
  have HB4 := Lib.hid (HB3.out.chg hc4 (by have := HB3LT.out; omega))
  have HCP := Lib.hid (mcopy_calls hm4)
  clear hm4 hc4 HKY
  go_wp2_with fail
  refine HCP.out.mono ?_
  rintro e w5 ⟨⟨m2, M2, rfl, hm5, h1, h2, h3⟩, hc5⟩
  have HNE2 := Lib.hid (And.intro h3 (And.intro h1 h2))
  have HM5 := Lib.hid hm5
  have HC5 := Lib.hid hc5
  have HIT := Lib.hid (mitems_calls (HM4.out.chgNo hc5) (by decide) 5)
  rw [mitems_one] at HIT
  clear h1 h2 h3 hm5 hc5 HCP
  go_wp2_with fail
  refine HIT.out.mono ?_
  rintro e w6 ⟨v6, rfl, ho6, hc6⟩
  obtain ⟨A6, c6, rfl, _, _⟩ := own_slice ho6
  have HC56 := Lib.hid (HC5.out.trans hc6)
  have HC6 := Lib.hid hc6
  have HLO := Lib.hid (lose_one (HM4.out.chgNo (HC5.out.trans hc6)) HNE.out.1)
  clear ho6 hc6 HIT
  go_wp2_with fail
  refine HLO.out.mono ?_
  rintro e w7 ⟨rfl, hm7, hc7⟩
  have HG7 := Lib.hid (get_gone hm7)
  have HX := Lib.hid (HM4.out.map.lt)
  have HM27 := Lib.hid ((HM5.out.chgNo HC6.out).chg hc7 (by have := HX.out; have := HNE2.out; omega) (by have := HX.out; have := HNE2.out; omega))
  have HC7 : Hid (Chg (fun k => k = M) w4 w7) := HC56.out.andM hc7
  clear hm7 hc7 HLO
  go_wp2_with fail
  refine HG7.out.mono ?_
  rintro e w8 ⟨rfl, hc8⟩
  have HC8 : Hid (Chg No w7 w8) := hc8
  have HG9 := fun W => Lib.hid (fun hc : Chg No w7 W => get_there (HM27.out.chgNo hc))
  clear hc8 HG7
  go_wp2_with fail
  refine ((HG9 _).out (HC8.out.trans (by (repeat (first | (with_reducible exact Chg.refl _ _) | (with_reducible assumption) | (with_reducible refine Chg.drewN ?_ _) | (with_reducible refine Chg.drew ?_) | (with_reducible refine Chg.alloc ?_ _) | (with_reducible refine Chg.setCell ?_ (by first | (left; simp [DevH.foot]; done) | (right; simp; done) | (right; simp; omega)) _)))))).mono ?_
  rintro e w9 ⟨rfl, hc9⟩
  have HC9 : Hid (Chg No w7 w9) := (HC8.out.trans (by (repeat (first | (with_reducible exact Chg.refl _ _) | (with_reducible assumption) | (with_reducible refine Chg.drewN ?_ _) | (with_reducible refine Chg.drew ?_) | (with_reducible refine Chg.alloc ?_ _) | (with_reducible refine Chg.setCell ?_ (by first | (left; simp [DevH.foot]; done) | (right; simp; done) | (right; simp; omega)) _))) : Chg No w8 _)).trans hc9
  have HC49 : Hid (Chg (fun k => k = M) w4 w9) := HC7.out.trans (HC9.out.mono (fun _ _ h => h.elim))
  have HB9 := Lib.hid (HB4.out.chg HC49.out (by have := HX.out; have := HB3LT.out; omega))
  have HRD := Lib.hid (HL2.out.chg (HC4.out.trans HC49.out) (fun g cur fz hg hgM => by
    subst hgM
    exact HM2.out.map.ne_blk hg rfl))
  obtain ⟨g, off, rfl, hgl, hcc⟩ := HRD.out.at_ (j := 0) (by decide)
  have a0 := hcc 0 _ rfl
  have a1 := hcc 1 _ rfl
  have a2 := hcc 2 _ rfl
  have a3 := hcc 3 _ rfl
  have a4 := hcc 4 _ rfl
  have a5 := hcc 5 _ rfl
  have a6 := hcc 6 _ rfl
  have b0 := HB9.out.cell 0
  have b1 := HB9.out.cell 1
  have b2 := HB9.out.cell 2
  have b3 := HB9.out.cell 3
  have b4 := HB9.out.cell 4
  simp only [sStored, Nat.add_zero, List.getElem?_toArray, List.getElem?_cons_zero, List.getElem?_cons_succ] at a0 a1 a2 a3 a4 a5 a6 b0 b1 b2 b3 b4
  have HEND : Hid (Chg No w w9) := by
    refine ((HC2.out.trans HC4.out).trans HC49.out).then (T := No) (Chg.refl _ _) (fun _ _ h => h.elim) |>.mono (fun k hk hkM => ?_)
    have := HNE.out.2.2
    omega
  have hbl9 := HB9.out.lt
  clear hc9 hcc HG9
  go_wp2_with fail
  go_ret
  exact ⟨rfl, HEND.out.trans (by (repeat (first | (with_reducible exact Chg.refl _ _) | (with_reducible assumption) | (with_reducible refine Chg.drewN ?_ _) | (with_reducible refine Chg.drew ?_) | (with_reducible refine Chg.alloc ?_ _) | (with_reducible refine Chg.setCell ?_ (by first | (left; simp [DevH.foot]; done) | (right; simp; done) | (right; simp; omega)) _))))⟩
end
end Go.Proofs.YtedkoplgfidjlaaDoor
