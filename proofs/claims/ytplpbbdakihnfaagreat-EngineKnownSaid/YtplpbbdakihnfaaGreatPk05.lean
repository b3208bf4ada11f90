/- Packed texts: TombB, Round, ImgS, RegSpec, RegRep. -/
import Derived.Test.YtplpbbdakihnfaaGreatPk03
import Derived.Test.YtplpbbdakihnfaaGreatPk02
import Derived.Test.YtplpbbdakihnfaaGreatPk04
import Derived.Deep.RegionHeld3
import Derived.Shelf.RegionOpen
import Derived.Test.YtplpbbdakihnfaaGreatPk01

/- tomb.read, walked. -/
section
namespace Go.Proofs.YtplpbbdakihnfaaGreat
open Go.RowKit
attribute [local go_sem ↓] Go.wp_at_zero Go.wp_at_succ
set_option linter.unusedSimpArgs false
set_option linter.unusedVariables false

abbrev tMark : TypeId := 104
abbrev tMarks : TypeId := 100
def mkc (m : Mk) : List Value := [.int .u64 m.1, .int .u64 m.2]
def mks (l : List Mk) : List Value := l.flatMap mkc
theorem mks_length (l : List Mk) : (mks l).length = l.length * 2 := by
  induction l with
  | nil => rfl
  | cons p r ih => simp only [mks, List.flatMap_cons, List.length_append, mkc, List.length_cons, List.length_nil] at ih ⊢; omega
theorem mks_append (a b : List Mk) : mks (a ++ b) = mks a ++ mks b := by simp [mks]
theorem mks_one (m : Mk) : mks [m] = mkc m := by simp [mks]
theorem mks_get (l : List Mk) (i : Nat) (m : Mk) (h : l[i]? = some m) : (mks l)[i * 2]? = some (.int .u64 m.1) ∧ (mks l)[i * 2 + 1]? = some (.int .u64 m.2) := by
  induction l generalizing i with
  | nil => simp at h
  | cons y r ih =>
    have e : mks (y :: r) = mkc y ++ mks r := by simp [mks]
    rw [e]
    cases i with
    | zero =>
      simp only [List.getElem?_cons_zero, Option.some.injEq] at h
      subst h
      exact ⟨rfl, rfl⟩
    | succ i =>
      have := ih i (by simpa using h)
      have e1 : (i + 1) * 2 = (mkc y).length + i * 2 := by simp [mkc]; omega
      have e2 : (i + 1) * 2 + 1 = (mkc y).length + (i * 2 + 1) := by simp [mkc]; omega
      rw [e2, e1, List.getElem?_append_right (by omega), List.getElem?_append_right (by omega), Nat.add_sub_cancel_left, Nat.add_sub_cancel_left]
      exact this
theorem mkc_one_cell (m : Mk) : ∀ u ∈ mkc m, u.oneCell' = true := by
  intro u hu
  simp only [mkc, List.mem_cons, List.not_mem_nil, or_false] at hu
  rcases hu with rfl | rfl <;> rfl
theorem ti_mark : TI Tryz.prog tMark (.agg #[.int .u64 0, .int .u64 0]) 2 16 := (by kernel_rfl : (Tryz.prog.info? tMark).map (fun i => (i.zero, i.size, i.bytes)) = some (some (.agg #[.int .u64 0, .int .u64 0]), 2, 16))
theorem rd_mark (w : World) (m : Mk) : Rd (w.alloc (.cells (mkc m).toArray tMark)) tMark (some ⟨w.heap.size, 0, none⟩) (1 * 2) (mkc m) := by
  have := Rd.ofBlk (k := 2) (Blk.new w tMark (mkc m).toArray) (by simp [mkc])
  simpa [mkc] using this
def jnL (b : List UInt8) (gen : Nat) : List Mk := (jnRead b gen).getD []
theorem jnL_form {b : List UInt8} {gen : Nat} : jnL b gen = if jnForm b gen then jnMarks b (num (cut b 4 8)) else [] := by
  unfold jnL jnRead
  split <;> rfl

set_option maxRecDepth 100000 in
set_option maxHeartbeats 4000000 in
theorem tread_calls (A : Option Addr) (c : Nat) (b : List UInt8) (gen : Nat) (w : World) (hr : Rd w tU8 A 384 (bys b)) (hc : 384 ≤ c) (hg : gen < 18446744073709551616) :
    Calls Tryz.prog 64 #[.slice A 384 c, .int .u64 gen] w fun e w' => ∃ v, e = .returned (.tuple #[v, .bool (jnForm b gen)]) ∧ w'.ownsRow w.heap.size tMark 2 v (jnL b gen).length (mks (jnL b gen)) ∧ Chg No w w' := by
  have hbl : b.length = 384 := by rw [← bys_length]; exact hr.1
  obtain ⟨A1, hs1, hd1⟩ := sub_slice_h (P := Tryz.prog) Tryz.underlying40 ti_u8 A 384 c 4 (by omega)
  have hs1' : ∀ W : World, (Instr.sliceAt tBytes (.slice A 384 c) none (some (.int .i64 4)) none).run Tryz.prog W = _ := fun W => (run_sliceAt_slice W tBytes _ _ _ _ Tryz.underlying40).trans (hs1 W)
  obtain ⟨A2, hs2, hd2⟩ := sub_slice (P := Tryz.prog) Tryz.underlying40 ti_u8 A 384 c 4 8 (by omega) (by omega) (by omega)
  have hs2' : ∀ W : World, (Instr.sliceAt tBytes (.slice A 384 c) (some (.int .i64 4)) (some (.int .i64 8)) none).run Tryz.prog W = _ := fun W => (run_sliceAt_slice W tBytes _ _ _ _ Tryz.underlying40).trans (hs2 W)
  obtain ⟨A3, hs3, hd3⟩ := sub_slice (P := Tryz.prog) Tryz.underlying40 ti_u8 A 384 c 8 16 (by omega) (by omega) (by omega)
  have hs3' : ∀ W : World, (Instr.sliceAt tBytes (.slice A 384 c) (some (.int .i64 8)) (some (.int .i64 16)) none).run Tryz.prog W = _ := fun W => (run_sliceAt_slice W tBytes _ _ _ _ Tryz.underlying40).trans (hs3 W)
  have HR := Lib.hid hr
  have HD1 : Hid (∀ W, Chg No w W → Rd W tU8 A1 4 (bys (b.take 4))) := fun W hc => by rw [bys_take]; exact hd1 W tU8 (bys b) (HR.out.chg hc (fun _ _ _ _ h => h)) (by omega)
  have HD2 : Hid (∀ W, Chg No w W → Rd W tU8 A2 4 (bys (cut b 4 8))) := fun W hc => by unfold cut; rw [bys_take, bys_drop]; exact hd2 W tU8 (bys b) (HR.out.chg hc (fun _ _ _ _ h => h)) (by omega)
  have HD3 : Hid (∀ W, Chg No w W → Rd W tU8 A3 8 (bys (cut b 8 16))) := fun W hc => by unfold cut; rw [bys_take, bys_drop]; exact hd3 W tU8 (bys b) (HR.out.chg hc (fun _ _ _ _ h => h)) (by omega)
  simp only [Int.reduceToNat, Nat.reduceSub] at hs2 hs2' hs3 hs3'
  obtain ⟨q1, hq1⟩ : ∃ q1, q1 = decide (b.take 4 = [84, 79, 77, 66]) := ⟨_, rfl⟩
  obtain ⟨q4, hq4⟩ : ∃ q4, q4 = num (cut b 4 8) := ⟨_, rfl⟩
  obtain ⟨q5, hq5⟩ : ∃ q5, q5 = num (cut b 8 16) := ⟨_, rfl⟩
  have hq4l : q4 < 4294967296 := by rw [hq4]; exact num_lt4 (cut_len_le b 4 8)
  have HEQ : ∀ (W : World) (B : Option Addr), Hid (Chg No w W → Rd W tU8 B 4 (bys [84, 79, 77, 66]) → Calls Tryz.prog 93 #[.slice A1 4 c, .slice B 4 4] W fun e w' => e = .returned (.bool q1) ∧ Chg No W w') := fun W B => fun hc hr => by
    rw [hq1]; exact eqb_calls A1 B 4 4 c 4 _ _ W (HD1.out W hc) hr (by omega) (by omega)
  have HNU : ∀ (W : World), Hid (Chg No w W → Calls Tryz.prog 94 #[.slice A2 4 (c - 4)] W fun e w' => e = .returned (.int .u64 q4) ∧ W = w') := fun W => fun hc => by
    rw [hq4]; exact tnumber_calls A2 4 _ _ W (HD2.out W hc) (by omega)
  have HN3 : ∀ (W : World), Hid (Chg No w W → Calls Tryz.prog 94 #[.slice A3 8 (c - 8)] W fun e w' => e = .returned (.int .u64 q5) ∧ W = w') := fun W => fun hc => by
    rw [hq5]; exact tnumber_calls A3 8 _ _ W (HD3.out W hc) (by omega)
  have HF : Hid (jnForm b gen = (q1 && (decide (q4 ≤ 23) && decide (q5 = gen)))) := by show _ = _; unfold jnForm; rw [hq1, hq4, hq5]
  have HJL : Hid (jnL b gen = if jnForm b gen then jnMarks b q4 else []) := by show _ = _; rw [jnL_form, hq4]
  obtain ⟨jf, hjf⟩ : ∃ jf, jf = jnForm b gen := ⟨_, rfl⟩
  obtain ⟨jl, hjl⟩ : ∃ jl, jl = jnL b gen := ⟨_, rfl⟩
  rw [← hjf] at HF HJL ⊢
  rw [← hjl] at HJL ⊢
  have HBL := Lib.hid hbl
  clear hq1 hq4 hq5 hjf hjl hbl hr hd1 hd2 hd3 HD1 HD2 HD3
  cases q1 with
  | false =>
    have hjf : jf = false := by rw [HF.out]; rfl
    have hjl : jl = [] := by rw [HJL.out, hjf]; rfl
    subst hjf; subst hjl
    clear HF HJL
    go_enter Tryz.func64, Tryz.ntmps64
    go_wp2_with fail
    refine ((HNU _).out (by (repeat (first | (with_reducible exact Chg.refl _ _) | (with_reducible assumption) | (with_reducible refine Chg.drewN ?_ _) | (with_reducible refine Chg.drew ?_) | (with_reducible refine Chg.alloc ?_ _) | (with_reducible refine Chg.setCell ?_ (by first | (left; simp [DevH.foot]; done) | (right; simp; done) | (right; simp; omega)) _))))).mono ?_
    rintro e w1 ⟨rfl, hw1⟩
    have HC1 : Hid (Chg No w w1) := by show Chg No w w1; rw [← hw1]; (repeat (first | (with_reducible exact Chg.refl _ _) | (with_reducible assumption) | (with_reducible refine Chg.drewN ?_ _) | (with_reducible refine Chg.drew ?_) | (with_reducible refine Chg.alloc ?_ _) | (with_reducible refine Chg.setCell ?_ (by first | (left; simp [DevH.foot]; done) | (right; simp; done) | (right; simp; omega)) _)))
    clear hw1 hs2 hs2' HNU
    go_wp2_with fail
    first
      | (go_region_with
          ((first
            | (go_at_call 83; refine (tmagic_calls _).mono ?_; rintro e w' ⟨rfl, rfl⟩)
            | (go_at_call 93; refine ((HEQ _ _).out (by have := HC1.out; (repeat (first | (with_reducible exact Chg.refl _ _) | (with_reducible assumption) | (with_reducible refine Chg.drewN ?_ _) | (with_reducible refine Chg.drew ?_) | (with_reducible refine Chg.alloc ?_ _) | (with_reducible refine Chg.setCell ?_ (by first | (left; simp [DevH.foot]; done) | (right; simp; done) | (right; simp; omega)) _)))) (by first | exact rd_tmagic _ | exact (rd_tmagic _).drewN _)).mono ?_; rintro e w' ⟨rfl, hc'⟩; have hc9 : Chg No w1 w' := (by (repeat (first | (with_reducible exact Chg.refl _ _) | (with_reducible assumption) | (with_reducible refine Chg.drewN ?_ _) | (with_reducible refine Chg.drew ?_) | (with_reducible refine Chg.alloc ?_ _) | (with_reducible refine Chg.setCell ?_ (by first | (left; simp [DevH.foot]; done) | (right; simp; done) | (right; simp; omega)) _))) : Chg No w1 _).trans hc'; clear hc'))))
      | fail "region"
    all_goals
      go_wp2
      go_ret2
      exact ⟨_, rfl, World.ownsRow_nil _ _ _ _, HC1.out.trans (by (repeat (first | (with_reducible exact Chg.refl _ _) | (with_reducible assumption) | (with_reducible refine Chg.drewN ?_ _) | (with_reducible refine Chg.drew ?_) | (with_reducible refine Chg.alloc ?_ _) | (with_reducible refine Chg.setCell ?_ (by first | (left; simp [DevH.foot]; done) | (right; simp; done) | (right; simp; omega)) _))))⟩
  | true =>
    by_cases z : q4 ≤ 23
    rotate_left
    · have hjf : jf = false := by rw [HF.out]; simp [z]
      have hjl : jl = [] := by rw [HJL.out, hjf]; rfl
      have b4 : decide ((23 : Int) < (q4 : Int)) = true := by simp; omega
      subst hjf; subst hjl
      clear z
      clear HF HJL
      go_enter Tryz.func64, Tryz.ntmps64
      go_wp2_with fail
      refine ((HNU _).out (by (repeat (first | (with_reducible exact Chg.refl _ _) | (with_reducible assumption) | (with_reducible refine Chg.drewN ?_ _) | (with_reducible refine Chg.drew ?_) | (with_reducible refine Chg.alloc ?_ _) | (with_reducible refine Chg.setCell ?_ (by first | (left; simp [DevH.foot]; done) | (right; simp; done) | (right; simp; omega)) _))))).mono ?_
      rintro e w1 ⟨rfl, hw1⟩
      have HC1 : Hid (Chg No w w1) := by show Chg No w w1; rw [← hw1]; (repeat (first | (with_reducible exact Chg.refl _ _) | (with_reducible assumption) | (with_reducible refine Chg.drewN ?_ _) | (with_reducible refine Chg.drew ?_) | (with_reducible refine Chg.alloc ?_ _) | (with_reducible refine Chg.setCell ?_ (by first | (left; simp [DevH.foot]; done) | (right; simp; done) | (right; simp; omega)) _)))
      clear hw1 hs2 hs2' HNU
      go_wp2_with fail
      first
        | (go_region_with
            ((first
              | (go_at_call 83; refine (tmagic_calls _).mono ?_; rintro e w' ⟨rfl, rfl⟩)
              | (go_at_call 93; refine ((HEQ _ _).out (by have := HC1.out; (repeat (first | (with_reducible exact Chg.refl _ _) | (with_reducible assumption) | (with_reducible refine Chg.drewN ?_ _) | (with_reducible refine Chg.drew ?_) | (with_reducible refine Chg.alloc ?_ _) | (with_reducible refine Chg.setCell ?_ (by first | (left; simp [DevH.foot]; done) | (right; simp; done) | (right; simp; omega)) _)))) (by first | exact rd_tmagic _ | exact (rd_tmagic _).drewN _)).mono ?_; rintro e w' ⟨rfl, hc'⟩; have hc9 : Chg No w1 w' := (by (repeat (first | (with_reducible exact Chg.refl _ _) | (with_reducible assumption) | (with_reducible refine Chg.drewN ?_ _) | (with_reducible refine Chg.drew ?_) | (with_reducible refine Chg.alloc ?_ _) | (with_reducible refine Chg.setCell ?_ (by first | (left; simp [DevH.foot]; done) | (right; simp; done) | (right; simp; omega)) _))) : Chg No w1 _).trans hc'; clear hc'))))
        | fail "region"
      all_goals
        go_wp2
        go_ret2
        exact ⟨_, rfl, World.ownsRow_nil _ _ _ _, HC1.out.trans (by (repeat (first | (with_reducible exact Chg.refl _ _) | (with_reducible assumption) | (with_reducible refine Chg.drewN ?_ _) | (with_reducible refine Chg.drew ?_) | (with_reducible refine Chg.alloc ?_ _) | (with_reducible refine Chg.setCell ?_ (by first | (left; simp [DevH.foot]; done) | (right; simp; done) | (right; simp; omega)) _))))⟩
    by_cases z5 : q5 = gen
    rotate_left
    · have hjf : jf = false := by rw [HF.out]; simp [z5]
      have hjl : jl = [] := by rw [HJL.out, hjf]; rfl
      have b4 : decide ((23 : Int) < (q4 : Int)) = false := by simp; omega
      have b5 : ((q5 : Int) != (gen : Int)) = true := by simp; omega
      have b5' : ¬ (q5 : Int) = (gen : Int) := by omega
      subst hjf; subst hjl
      clear z z5
      clear HF HJL
      go_enter Tryz.func64, Tryz.ntmps64
      go_wp2_with fail
      refine ((HNU _).out (by (repeat (first | (with_reducible exact Chg.refl _ _) | (with_reducible assumption) | (with_reducible refine Chg.drewN ?_ _) | (with_reducible refine Chg.drew ?_) | (with_reducible refine Chg.alloc ?_ _) | (with_reducible refine Chg.setCell ?_ (by first | (left; simp [DevH.foot]; done) | (right; simp; done) | (right; simp; omega)) _))))).mono ?_
      rintro e w1 ⟨rfl, hw1⟩
      have HC1 : Hid (Chg No w w1) := by show Chg No w w1; rw [← hw1]; (repeat (first | (with_reducible exact Chg.refl _ _) | (with_reducible assumption) | (with_reducible refine Chg.drewN ?_ _) | (with_reducible refine Chg.drew ?_) | (with_reducible refine Chg.alloc ?_ _) | (with_reducible refine Chg.setCell ?_ (by first | (left; simp [DevH.foot]; done) | (right; simp; done) | (right; simp; omega)) _)))
      clear hw1 hs2 hs2' HNU
      go_wp2_with fail
      go_region_held3 (fun _ => True) (exact trivial)
        ((first
          | (go_at_call 83; refine (tmagic_calls _).mono ?_; rintro e w' ⟨rfl, rfl⟩)
          | (go_at_call 93; refine ((HEQ _ _).out (by have := HC1.out; (repeat (first | (with_reducible exact Chg.refl _ _) | (with_reducible assumption) | (with_reducible refine Chg.drewN ?_ _) | (with_reducible refine Chg.drew ?_) | (with_reducible refine Chg.alloc ?_ _) | (with_reducible refine Chg.setCell ?_ (by first | (left; simp [DevH.foot]; done) | (right; simp; done) | (right; simp; omega)) _)))) (by first | exact rd_tmagic _ | exact (rd_tmagic _).drewN _)).mono ?_; rintro e w' ⟨rfl, hc'⟩; have hc9 : Chg No w1 w' := (by (repeat (first | (with_reducible exact Chg.refl _ _) | (with_reducible assumption) | (with_reducible refine Chg.drewN ?_ _) | (with_reducible refine Chg.drew ?_) | (with_reducible refine Chg.alloc ?_ _) | (with_reducible refine Chg.setCell ?_ (by first | (left; simp [DevH.foot]; done) | (right; simp; done) | (right; simp; omega)) _))) : Chg No w1 _).trans hc'; clear hc')
          | (go_at_call 94; refine ((HN3 _).out (by have := HC1.out; exact this.trans (by (repeat (first | (with_reducible exact Chg.refl _ _) | (with_reducible assumption) | (with_reducible refine Chg.drewN ?_ _) | (with_reducible refine Chg.drew ?_) | (with_reducible refine Chg.alloc ?_ _) | (with_reducible refine Chg.setCell ?_ (by first | (left; simp [DevH.foot]; done) | (right; simp; done) | (right; simp; omega)) _)))))).mono ?_; rintro e w' ⟨rfl, rfl⟩)))
      all_goals
        go_wp2
        go_ret2
        exact ⟨_, rfl, World.ownsRow_nil _ _ _ _, HC1.out.trans (by (repeat (first | (with_reducible exact Chg.refl _ _) | (with_reducible assumption) | (with_reducible refine Chg.drewN ?_ _) | (with_reducible refine Chg.drew ?_) | (with_reducible refine Chg.alloc ?_ _) | (with_reducible refine Chg.setCell ?_ (by first | (left; simp [DevH.foot]; done) | (right; simp; done) | (right; simp; omega)) _))))⟩
    have hjf : jf = true := by rw [HF.out]; simp [z, z5]
    have hjl : jl = jnMarks b q4 := by rw [HJL.out, hjf]; rfl
    have b4 : decide ((23 : Int) < (q4 : Int)) = false := by simp; omega
    have b5 : ((q5 : Int) != (gen : Int)) = false := by rw [z5]; simp
    have HJ2 := Lib.hid hjl
    subst hjf
    subst z5
    clear HF HJL hjl
    go_enter Tryz.func64, Tryz.ntmps64
    go_wp2_with fail
    refine ((HNU _).out (by (repeat (first | (with_reducible exact Chg.refl _ _) | (with_reducible assumption) | (with_reducible refine Chg.drewN ?_ _) | (with_reducible refine Chg.drew ?_) | (with_reducible refine Chg.alloc ?_ _) | (with_reducible refine Chg.setCell ?_ (by first | (left; simp [DevH.foot]; done) | (right; simp; done) | (right; simp; omega)) _))))).mono ?_
    rintro e w1 ⟨rfl, hw1⟩
    have HC1 : Hid (Chg No w w1) := by show Chg No w w1; rw [← hw1]; (repeat (first | (with_reducible exact Chg.refl _ _) | (with_reducible assumption) | (with_reducible refine Chg.drewN ?_ _) | (with_reducible refine Chg.drew ?_) | (with_reducible refine Chg.alloc ?_ _) | (with_reducible refine Chg.setCell ?_ (by first | (left; simp [DevH.foot]; done) | (right; simp; done) | (right; simp; omega)) _)))
    clear hw1 hs2 hs2' HNU
    go_wp2_with fail
    go_region_held3 (fun _ => True) (exact trivial)
      ((first
        | (go_at_call 83; refine (tmagic_calls _).mono ?_; rintro e w' ⟨rfl, rfl⟩)
        | (go_at_call 93; refine ((HEQ _ _).out (by have := HC1.out; (repeat (first | (with_reducible exact Chg.refl _ _) | (with_reducible assumption) | (with_reducible refine Chg.drewN ?_ _) | (with_reducible refine Chg.drew ?_) | (with_reducible refine Chg.alloc ?_ _) | (with_reducible refine Chg.setCell ?_ (by first | (left; simp [DevH.foot]; done) | (right; simp; done) | (right; simp; omega)) _)))) (by first | exact rd_tmagic _ | exact (rd_tmagic _).drewN _)).mono ?_; rintro e w' ⟨rfl, hc'⟩; have hc9 : Chg No w1 w' := (by (repeat (first | (with_reducible exact Chg.refl _ _) | (with_reducible assumption) | (with_reducible refine Chg.drewN ?_ _) | (with_reducible refine Chg.drew ?_) | (with_reducible refine Chg.alloc ?_ _) | (with_reducible refine Chg.setCell ?_ (by first | (left; simp [DevH.foot]; done) | (right; simp; done) | (right; simp; omega)) _))) : Chg No w1 _).trans hc'; clear hc')
        | (go_at_call 94; refine ((HN3 _).out (by have := HC1.out; exact this.trans (by (repeat (first | (with_reducible exact Chg.refl _ _) | (with_reducible assumption) | (with_reducible refine Chg.drewN ?_ _) | (with_reducible refine Chg.drew ?_) | (with_reducible refine Chg.alloc ?_ _) | (with_reducible refine Chg.setCell ?_ (by first | (left; simp [DevH.foot]; done) | (right; simp; done) | (right; simp; omega)) _)))))).mono ?_; rintro e w' ⟨rfl, rfl⟩)))
    all_goals
      have HC2 : Hid (Chg No w w') := HC1.out.trans hc9
      clear hc9 hs1 hs1' hs3 hs3' HEQ HN3 HC1
      have hew : IntKind.i64.wrap (q4 : Int) = q4 := IntWalk.i64_in _ (by omega)
      go_wp2
      go_loopg [7, 31] q4 (fun gk v7 vi wr => ∃ (k : Nat) (v9 : Value), v9 = v7 ∧ gk = q4 - k ∧ k ≤ q4 ∧ vi = .int .i64 k ∧ Hid (wr.ownsRow w.heap.size tMark 2 v9 k (mks (jnMarks b k)) ∧ Chg No w wr))
      case atStart => exact ⟨0, _, rfl, rfl, Nat.zero_le _, rfl, World.ownsRow_nil _ _ _ _, HC2.out⟩
      case round =>
        obtain ⟨k, v9, rfl, rfl, hk, rfl, H⟩ := hrel
        by_cases hlt : k < q4
        · have hkq : (k : Int) < (q4 : Int) := by omega
          have et : (16 + 16 * (k : Int)).toNat = 16 + 16 * k := by omega
          obtain ⟨A4, hs4, hd4⟩ := sub_slice_l (P := Tryz.prog) Tryz.underlying40 ti_u8 A 384 c (16 + 16 * (k : Int)) (by omega) (by omega) hc
          rw [et] at hs4 hd4
          obtain ⟨n4, hn4⟩ : ∃ n4, n4 = 384 - (16 + 16 * k) := ⟨_, rfl⟩
          obtain ⟨c4, hc4⟩ : ∃ c4, c4 = c - (16 + 16 * k) := ⟨_, rfl⟩
          rw [← hn4] at hs4 hd4
          rw [← hc4] at hs4
          have hs4' : ∀ W : World, (Instr.sliceAt tBytes (.slice A 384 c) (some (.int .i64 (16 + 16 * (k : Int)))) none none).run Tryz.prog W = _ := fun W => (run_sliceAt_slice W tBytes _ _ _ _ Tryz.underlying40).trans (hs4 W)
          obtain ⟨A5, hs5, hd5⟩ := sub_slice_h (P := Tryz.prog) Tryz.underlying40 ti_u8 A4 n4 c4 8 (by omega)
          have hs5' : ∀ W : World, (Instr.sliceAt tBytes (.slice A4 n4 c4) none (some (.int .i64 8)) none).run Tryz.prog W = _ := fun W => (run_sliceAt_slice W tBytes _ _ _ _ Tryz.underlying40).trans (hs5 W)
          obtain ⟨A6, hs6, hd6⟩ := sub_slice (P := Tryz.prog) Tryz.underlying40 ti_u8 A4 n4 c4 8 16 (by omega) (by omega) (by omega)
          have hs6' : ∀ W : World, (Instr.sliceAt tBytes (.slice A4 n4 c4) (some (.int .i64 8)) (some (.int .i64 16)) none).run Tryz.prog W = _ := fun W => (run_sliceAt_slice W tBytes _ _ _ _ Tryz.underlying40).trans (hs6 W)
          simp only [Int.reduceToNat, Nat.reduceSub] at hs5 hs5' hs6 hs6'
          have hr4 : ∀ W, Chg No w W → Rd W tU8 A4 n4 (bys (b.drop (16 + 16 * k))) := fun W hc => by
            have := hd4 W tU8 (bys b) (HR.out.chg hc (fun _ _ _ _ h => h))
            rw [Nat.mul_one, Nat.mul_one, ← bys_drop] at this
            exact this
          have e5 : (b.drop (16 + 16 * k)).take 8 = cut b (16 + 16 * k) (24 + 16 * k) := by unfold cut; congr 1; omega
          have e6 : ((b.drop (16 + 16 * k)).drop 8).take 8 = cut b (24 + 16 * k) (32 + 16 * k) := by unfold cut; rw [List.drop_drop, show 16 + 16 * k + 8 = 24 + 16 * k by omega]; congr 1; omega
          obtain ⟨y1, hy1⟩ : ∃ y, y = num (cut b (16 + 16 * k) (24 + 16 * k)) := ⟨_, rfl⟩
          obtain ⟨y2, hy2⟩ : ∃ y, y = num (cut b (24 + 16 * k) (32 + 16 * k)) := ⟨_, rfl⟩
          have HN5 : ∀ W, Hid (Chg No w W → Calls Tryz.prog 94 #[.slice A5 8 c4] W fun e w' => e = .returned (.int .u64 y1) ∧ W = w') := fun W => fun hc => by
            rw [hy1]
            refine tnumber_calls A5 8 _ _ W ?_ (by omega)
            have := hd5 W tU8 _ (by rw [Nat.mul_one]; exact hr4 W hc) (by omega)
            rw [← bys_take, e5] at this
            exact this
          have HN6 : ∀ W, Hid (Chg No w W → Calls Tryz.prog 94 #[.slice A6 8 (c4 - 8)] W fun e w' => e = .returned (.int .u64 y2) ∧ W = w') := fun W => fun hc => by
            rw [hy2]
            refine tnumber_calls A6 8 _ _ W ?_ (by omega)
            have := hd6 W tU8 _ (by rw [Nat.mul_one]; exact hr4 W hc) (by omega)
            rw [Nat.mul_one, Nat.mul_one, ← bys_drop, ← bys_take] at this
            exact e6 ▸ this
          have HMK : Hid (mks (jnMarks b (k + 1)) = mks (jnMarks b k) ++ mkc (y1, y2)) := by
            show _ = _
            rw [← mks_one, ← mks_append]
            unfold jnMarks
            rw [List.range_succ, List.map_append]
            congr 2
            simp only [List.map_cons, List.map_nil, jnMark, hy1, hy2]
          have HWZ : Hid (w.heap.size ≤ wr.heap.size) := H.out.2.size
          clear hd4 hd5 hd6 hr4 e5 e6 hy1 hy2 et hn4 hc4
          go_wp2_with fail
          have HH := Lib.hid H.out.1
          have HCW := Lib.hid H.out.2
          have h02 : 0 < 2 := by omega
          have h63 : k + 1 ≤ maxLen := by simp only [maxLen]; omega
          have hby : (k + 1) * 16 ≤ 140737488355328 := by omega
          have HHD : Hid ((wr.alloc (.cells #[.int .u64 y1, .int .u64 y2] tMark)).drew.ownsRow w.heap.size tMark 2 v9 k (mks (jnMarks b k))) := HH.out.alloc _
          have HRD : Hid (Rd (wr.alloc (.cells #[.int .u64 y1, .int .u64 y2] tMark)).drew tMark (some ⟨wr.heap.size, 0, none⟩) (1 * 2) (mkc (y1, y2))) := (rd_mark wr (y1, y2)).drew
          have HCD : Hid (Chg No w (wr.alloc (.cells #[.int .u64 y1, .int .u64 y2] tMark)).drew) := (HCW.out.alloc _).drew
          clear H
          go_region_held3 (fun _ => True) (exact trivial)
            ((first
              | (go_at_call 94
                 first
                   | (with_reducible refine Calls.mono ((HN5 _).out ?_) ?_
                      · exact HCW.out.trans (by (repeat (first | (with_reducible exact Chg.refl _ _) | (with_reducible assumption) | (with_reducible refine Chg.drewN ?_ _) | (with_reducible refine Chg.drew ?_) | (with_reducible refine Chg.alloc ?_ _) | (with_reducible refine Chg.setCell ?_ (by first | (left; simp [DevH.foot]; done) | (right; simp; done) | (right; simp; omega)) _))))
                      rintro e w3 ⟨rfl, rfl⟩)
                   | (with_reducible refine Calls.mono ((HN6 _).out ?_) ?_
                      · exact HCW.out.trans (by (repeat (first | (with_reducible exact Chg.refl _ _) | (with_reducible assumption) | (with_reducible refine Chg.drewN ?_ _) | (with_reducible refine Chg.drew ?_) | (with_reducible refine Chg.alloc ?_ _) | (with_reducible refine Chg.setCell ?_ (by first | (left; simp [DevH.foot]; done) | (right; simp; done) | (right; simp; omega)) _))))
                      rintro e w3 ⟨rfl, rfl⟩))
              | ((refine step_app _ rfl (.tmp 39) (.tmp 47) tMarks rfl tMark Tryz.underlying100 ti_mark rfl h02 w.heap.size _ k _ rfl HHD.out tMark _ 1 1 (mkc (y1, y2)) rfl HRD.out (mkc_one_cell (y1, y2)) h63 hby HCD.out.size ?_); intro v6 w6 ho6 hg6 hb6; have HO6 : Hid (w6.ownsRow w.heap.size tMark 2 v6 (k + 1) (mks (jnMarks b (k + 1)))) := (by show World.ownsRow _ _ _ _ _ _ _; rw [HMK.out]; exact ho6); have HC6 : Hid (Chg No w w6) := Chg.grown HCD.out hg6 (fun j hj => .inr (own_new HH.out j hj)); clear ho6 hg6 hb6)))
          all_goals
            go_wp2
            go_roundg (q4 - (k + 1))
            case measure => omega
            case rel => exact ⟨k + 1, _, rfl, rfl, by omega, by go_num, HO6.out, HC6.out⟩
        · obtain rfl : k = q4 := by omega
          go_wp2
          go_ret2
          refine ⟨_, rfl, ?_, H.out.2⟩
          rw [HJ2.out]
          have : (jnMarks b k).length = k := by simp [jnMarks]
          rw [this]
          exact H.out.1
end Go.Proofs.YtplpbbdakihnfaaGreat
end

/- What is laid is read again, in plain Lean. -/
section
namespace Go.Proofs.YtplpbbdakihnfaaGreat
open Go.RowKit
set_option linter.unusedSimpArgs false

theorem cut_mid {b A M C : List UInt8} {i j : Nat} (hb : b = A ++ (M ++ C)) (hi : A.length = i) (hj : i + M.length = j) : cut b i j = M := by
  subst hb
  unfold cut
  rw [← hi, List.drop_left, ← hj, ← hi, Nat.add_sub_cancel_left, List.take_left]

theorem bytes_back (s : ByteArray) : (⟨s.data.toList.toArray⟩ : ByteArray) = s := by cases s; simp

set_option maxRecDepth 10000 in
theorem take_record (x : Item) (r : List UInt8) (hg : x.good = true) : take (record x ++ r) = .ok x x.size := by
  have hgg := hg
  simp only [Item.good, Bool.and_eq_true, decide_eq_true_eq] at hgg
  obtain ⟨⟨⟨g1, g2⟩, g3⟩, g4⟩ := hgg
  obtain ⟨b, hb⟩ : ∃ b, b = record x ++ r := ⟨_, rfl⟩
  rw [← hb]
  have hkl : x.key.data.toList.length = x.key.size := Array.length_toList
  have hvl : x.val.data.toList.length = x.val.size := Array.length_toList
  have k0 : keyLen b = x.key.size := by
    unfold keyLen
    rw [hb]
    simp [record, hd24, UInt8.toNat_ofNat']
    omega
  have b3 : b.getD 3 0 = 82 := by
    rw [hb]
    simp [record, hd24, le]
  have c00 : cut b 1 3 = le 2 x.val.size := cut_mid (A := [UInt8.ofNat x.key.size]) (C := (82 :: (le 4 x.flags.toNat ++ (le 8 x.exp.toUInt64.toNat ++ le 8 x.ver.toNat))) ++ ((le 4 (crc (hd24 x)) ++ (le 4 (crc (body x)) ++ body x)) ++ r)) (by rw [hb]; simp [record, hd24]) rfl (by rw [le_length])
  have hv0 : valLen b = x.val.size := by
    unfold valLen
    rw [c00]
    exact num_le_of_lt (by omega)
  have he : endOf b = x.size := by unfold endOf; rw [k0, hv0]; rfl
  have c1 : cut b 4 8 = le 4 x.flags.toNat := cut_mid (A := UInt8.ofNat x.key.size :: (le 2 x.val.size ++ [82])) (C := (le 8 x.exp.toUInt64.toNat ++ le 8 x.ver.toNat) ++ ((le 4 (crc (hd24 x)) ++ (le 4 (crc (body x)) ++ body x)) ++ r)) (by rw [hb]; simp [record, hd24]) (by simp [le_length]) (by rw [le_length])
  have c2 : cut b 8 16 = le 8 x.exp.toUInt64.toNat := cut_mid (A := UInt8.ofNat x.key.size :: (le 2 x.val.size ++ (82 :: le 4 x.flags.toNat))) (C := le 8 x.ver.toNat ++ ((le 4 (crc (hd24 x)) ++ (le 4 (crc (body x)) ++ body x)) ++ r)) (by rw [hb]; simp [record, hd24]) (by simp [le_length]) (by rw [le_length])
  have c3 : cut b 16 24 = le 8 x.ver.toNat := cut_mid (A := UInt8.ofNat x.key.size :: (le 2 x.val.size ++ (82 :: (le 4 x.flags.toNat ++ le 8 x.exp.toUInt64.toNat)))) (C := (le 4 (crc (hd24 x)) ++ (le 4 (crc (body x)) ++ body x)) ++ r) (by rw [hb]; simp [record, hd24]) (by simp [le_length]) (by rw [le_length])
  have c4 : cut b 0 24 = hd24 x := cut_mid (A := []) (C := (le 4 (crc (hd24 x)) ++ (le 4 (crc (body x)) ++ body x)) ++ r) (by rw [hb]; simp [record]) rfl (by rw [hd24_length])
  have c5 : cut b 24 28 = le 4 (crc (hd24 x)) := cut_mid (A := hd24 x) (C := (le 4 (crc (body x)) ++ body x) ++ r) (by rw [hb]; simp [record]) (hd24_length x) (by rw [le_length])
  have c6 : cut b 28 32 = le 4 (crc (body x)) := cut_mid (A := hd24 x ++ le 4 (crc (hd24 x))) (C := body x ++ r) (by rw [hb]; simp [record]) (by rw [List.length_append, hd24_length, le_length]) (by rw [le_length])
  have c7 : cut b 32 x.size = body x := cut_mid (A := hd24 x ++ (le 4 (crc (hd24 x)) ++ le 4 (crc (body x)))) (C := r) (by rw [hb]; simp [record]) (by simp only [List.length_append, hd24_length, le_length]) (by rw [body_length]; unfold Item.size; omega)
  have c8 : cut b 32 (32 + x.key.size) = x.key.data.toList := cut_mid (A := hd24 x ++ (le 4 (crc (hd24 x)) ++ le 4 (crc (body x)))) (C := x.val.data.toList ++ r) (by rw [hb]; simp [record, body]) (by simp only [List.length_append, hd24_length, le_length]) (by rw [hkl])
  have c9 : cut b (32 + x.key.size) x.size = x.val.data.toList := cut_mid (A := hd24 x ++ (le 4 (crc (hd24 x)) ++ (le 4 (crc (body x)) ++ x.key.data.toList))) (C := r) (by rw [hb]; simp [record, body]) (by simp only [List.length_append, hd24_length, le_length, hkl]; omega) (by rw [hvl]; rfl)
  have hit : itemOf b = x := by
    unfold itemOf
    rw [k0, he, c8, c9, c1, c2, c3]
    rw [num_le_of_lt (by have := x.flags.toNat_lt; omega), num_le_of_lt (by have := x.exp.toUInt64.toNat_lt; omega), num_le_of_lt (by have := x.ver.toNat_lt; omega)]
    rw [bytes_back, bytes_back]
    simp
  have hlen : x.size ≤ b.length := by rw [hb, List.length_append, record_length]; omega
  have hs32 : 32 ≤ x.size := by unfold Item.size; omega
  have hne : ¬ (b.length = 0 ∨ b.getD 0 0 = 0) := by
    rintro (h | h)
    · omega
    · unfold keyLen at k0
      rw [h] at k0
      simp at k0
      omega
  unfold take
  rw [if_neg hne, hit, he]
  have h1 : headOk b = true := by
    unfold headOk
    rw [b3, c4, c5, num_le_of_lt (by have := crc_lt (hd24 x); omega)]
    simp; omega
  have h2 : bodyOk b = true := by
    unfold bodyOk
    rw [he, c6, c7, num_le_of_lt (by have := crc_lt (body x); omega)]
    simp; omega
  rw [h1, h2, hg]
  rfl

theorem take_zeros (n : Nat) : take (List.replicate n 0) = .none := by
  unfold take
  rw [if_pos]
  right
  cases n with
  | zero => rfl
  | succ n => simp [List.replicate_succ]

theorem listOf_records (l : List Item) (n : Nat) (hg : goods l = true) : listOf (records l ++ List.replicate n 0) = some l := by
  induction l with
  | nil =>
    rw [listOf_step]
    simp only [records, List.flatMap_nil, List.nil_append]
    rw [take_zeros]
  | cons x r ih =>
    simp only [goods, List.all_cons, Bool.and_eq_true] at hg
    rw [listOf_step]
    have e : records (x :: r) ++ List.replicate n 0 = record x ++ (records r ++ List.replicate n 0) := by simp [records]
    rw [e, take_record x _ hg.1]
    simp only
    rw [← record_length, List.drop_left, ih hg.2]
    rfl

theorem listOf_layB (l : List Item) (room : Nat) (hr : room ≤ 65536) (hg : goods l = true) (hf : (records l).length ≤ room) : listOf (layB l room) = some l ∧ (layB l room).length = room := by
  have he : layE l room = 0 := by
    unfold layE
    rw [hg, if_pos rfl, if_neg (by omega), if_neg (by omega)]
  unfold layB
  rw [if_pos he]
  refine ⟨listOf_records l _ hg, ?_⟩
  simp; omega
end Go.Proofs.YtplpbbdakihnfaaGreat
end

/- Images in plain Lean: pages, what Dump writes. -/
section
namespace Go.Proofs.YtplpbbdakihnfaaGreat
open Go.RowKit
set_option linter.unusedSimpArgs false
set_option linter.unusedVariables false

/-- how many chunks bytes have; the j-th; a page's bytes ahead of a chunk; a page -/
def ckN (len : Nat) : Nat := (len + 375) / 376
def ck (b : List UInt8) (j : Nat) : List UInt8 := (b.drop (j * 376)).take 376
def pgHead (n j : Nat) : List UInt8 := [73, 77] ++ le 2 n ++ le 4 j
def pgOf (c : List UInt8) (j : Nat) : List UInt8 := pgHead c.length j ++ c
theorem ck_len (b : List UInt8) (j : Nat) : (ck b j).length = min 376 (b.length - j * 376) := by simp [ck]
theorem pgHead_len (n j : Nat) : (pgHead n j).length = 8 := by simp [pgHead, le_length]
theorem pgOf_len (c : List UInt8) (j : Nat) : (pgOf c j).length = 8 + c.length := by simp [pgOf, pgHead_len]

/-- may a device have such pages -/
def Dev.may (D : Dev) (first pages : Int) : Bool := decide (0 ≤ first) && decide (0 ≤ pages) && decide (first ≤ D.n) && decide (pages ≤ D.n - first)
/-- chunks, by their numbers, written one behind the other -/
def Dev.putL (D : Dev) (first : Int) (b : List UInt8) (l : List Nat) : Dev := l.zipIdx.foldl (fun D p => D.write (first + p.2) (pgOf (ck b p.1) p.2)) D
theorem Dev.putL_snoc (D : Dev) (first : Int) (b : List UInt8) (l : List Nat) (x : Nat) : D.putL first b (l ++ [x]) = (D.putL first b l).write (first + l.length) (pgOf (ck b x) l.length) := by
  unfold Dev.putL
  rw [List.zipIdx_append, List.foldl_append]
  simp
def Dev.putLE (D : Dev) (first : Int) (b : List UInt8) (l : List Nat) (x : Nat) : Int := (D.putL first b l).writeE (first + l.length) (pgOf (ck b x) l.length).length
/-- the first k chunks; the k-th's error -/
def Dev.puts (D : Dev) (first : Int) (b : List UInt8) (k : Nat) : Dev := D.putL first b (List.range k)
def Dev.putsE (D : Dev) (first : Int) (b : List UInt8) (k : Nat) : Int := D.putLE first b (List.range k) k
theorem Dev.puts_zero (D : Dev) (first : Int) (b : List UInt8) : D.puts first b 0 = D := rfl
theorem Dev.puts_succ (D : Dev) (first : Int) (b : List UInt8) (k : Nat) : D.puts first b (k + 1) = (D.puts first b k).write (first + k) (pgOf (ck b k) k) := by
  unfold Dev.puts
  rw [List.range_succ, Dev.putL_snoc]
  simp
theorem Dev.putsE_eq (D : Dev) (first : Int) (b : List UInt8) (k : Nat) : D.putsE first b k = (D.puts first b k).writeE (first + k) (pgOf (ck b k) k).length := by
  unfold Dev.putsE Dev.putLE Dev.puts
  simp

/-- how many of the items have room -/
def fitI (room : Int) : Nat → List Item → Nat
  | _, [] => 0
  | acc, x :: r => if ((acc + x.size : Nat) : Int) ≤ room then fitI room (acc + x.size) r + 1 else 0
def isum (l : List Item) : Nat := (l.map (·.size)).sum
theorem isum_records (l : List Item) : (records l).length = isum l := by
  induction l with
  | nil => rfl
  | cons x r ih => simp only [records, List.flatMap_cons, List.length_append, record_length, isum, List.map_cons, List.sum_cons] at ih ⊢; omega
theorem fitI_le (room : Int) : ∀ (l : List Item) (acc : Nat), fitI room acc l ≤ l.length := by
  intro l
  induction l with
  | nil => intro acc; exact Nat.le_refl _
  | cons x r ih =>
    intro acc
    rw [fitI]
    split
    · have := ih (acc + x.size); simp only [List.length_cons]; omega
    · exact Nat.zero_le _
theorem fitI_snoc (room : Int) : ∀ (l : List Item) (acc : Nat) (x : Item), fitI room acc (l ++ [x]) = if fitI room acc l = l.length ∧ ((acc + isum l + x.size : Nat) : Int) ≤ room then l.length + 1 else fitI room acc l := by
  intro l
  induction l with
  | nil =>
    intro acc x
    simp only [List.nil_append, fitI, isum, List.map_nil, List.sum_nil, List.length_nil, Nat.add_zero, true_and]
  | cons y r ih =>
    intro acc x
    rw [List.cons_append, fitI, fitI, ih (acc + y.size) x]
    have e : acc + y.size + isum r = acc + isum (y :: r) := by simp only [isum, List.map_cons, List.sum_cons]; omega
    rw [e]
    have hle := fitI_le room r (acc + y.size)
    by_cases h : ((acc + y.size : Nat) : Int) ≤ room
    · rw [if_pos h, if_pos h]
      by_cases h2 : fitI room (acc + y.size) r = r.length ∧ ((acc + isum (y :: r) + x.size : Nat) : Int) ≤ room
      · rw [if_pos h2, if_pos ⟨by simp only [List.length_cons]; omega, h2.2⟩]; simp only [List.length_cons]
      · rw [if_neg h2, if_neg (fun hh => h2 ⟨by have := hh.1; simp only [List.length_cons] at this; omega, hh.2⟩)]
    · rw [if_neg h, if_neg h, if_neg (fun hh => by have := hh.1; simp only [List.length_cons] at this; omega)]
/-- what fits has room -/
theorem fitI_room (room : Int) : ∀ (l : List Item) (acc : Nat), 0 < fitI room acc l → ((acc + isum (l.take (fitI room acc l)) : Nat) : Int) ≤ room := by
  intro l
  induction l with
  | nil => intro acc h; simp [fitI] at h
  | cons x r ih =>
    intro acc h
    rw [fitI] at h ⊢
    by_cases h1 : ((acc + x.size : Nat) : Int) ≤ room
    · rw [if_pos h1] at h ⊢
      rw [List.take_succ_cons]
      simp only [isum, List.map_cons, List.sum_cons]
      by_cases h2 : fitI room (acc + x.size) r = 0
      · rw [h2]; simpa using h1
      · have := ih (acc + x.size) (by omega)
        simp only [isum] at this
        rw [← Nat.add_assoc]
        exact this
    · rw [if_neg h1] at h; exact absurd h (by omega)

/-- what Dump answers: pages, items, the error, the device behind it -/
inductive DumpR (D : Dev) (first pages : Int) (l : List Item) : Nat → Nat → Int → Dev → Prop
  | arg : (D.may first pages && goods l) = false → DumpR D first pages l 0 0 1 D
  | cut (k : Nat) : (D.may first pages && goods l) = true → k < ckN (records (l.take (fitI (376 * pages) 0 l))).length →
      (∀ j, j < k → D.putsE first (records (l.take (fitI (376 * pages) 0 l))) j = 0) → D.putsE first (records (l.take (fitI (376 * pages) 0 l))) k ≠ 0 →
      DumpR D first pages l 0 0 (D.putsE first (records (l.take (fitI (376 * pages) 0 l))) k) (D.puts first (records (l.take (fitI (376 * pages) 0 l))) (k + 1))
  | noflush : (D.may first pages && goods l) = true → (∀ j, j < ckN (records (l.take (fitI (376 * pages) 0 l))).length → D.putsE first (records (l.take (fitI (376 * pages) 0 l))) j = 0) →
      (D.puts first (records (l.take (fitI (376 * pages) 0 l))) (ckN (records (l.take (fitI (376 * pages) 0 l))).length)).changeE ≠ 0 →
      DumpR D first pages l 0 0 (D.puts first (records (l.take (fitI (376 * pages) 0 l))) (ckN (records (l.take (fitI (376 * pages) 0 l))).length)).changeE (D.puts first (records (l.take (fitI (376 * pages) 0 l))) (ckN (records (l.take (fitI (376 * pages) 0 l))).length)).flush
  | ok : (D.may first pages && goods l) = true → (∀ j, j < ckN (records (l.take (fitI (376 * pages) 0 l))).length → D.putsE first (records (l.take (fitI (376 * pages) 0 l))) j = 0) →
      (D.puts first (records (l.take (fitI (376 * pages) 0 l))) (ckN (records (l.take (fitI (376 * pages) 0 l))).length)).changeE = 0 →
      DumpR D first pages l (ckN (records (l.take (fitI (376 * pages) 0 l))).length) (fitI (376 * pages) 0 l) 0 (D.puts first (records (l.take (fitI (376 * pages) 0 l))) (ckN (records (l.take (fitI (376 * pages) 0 l))).length)).flush
end Go.Proofs.YtplpbbdakihnfaaGreat
end

/- The log in regions in plain Lean: what its functions compute. -/
section
namespace Go.Proofs.YtplpbbdakihnfaaGreat
open Go.RowKit
set_option linter.unusedSimpArgs false
set_option linter.unusedVariables false

/-- where a key's item stands -/
structure Pl where
  op : Bool
  rg : Nat
  ix : Nat
  deriving DecidableEq
/-- a sealed region; number 0: none -/
structure Sealed where
  num : Nat
  l : List Item
def Sealed.no : Sealed := ⟨0, []⟩
abbrev Keys := List (ByteArray × Pl)
structure Lg where
  losses : Int
  first : Nat
  regs : List Sealed
  opn : List Item
  number : Nat
  keys : Keys

/-! a page of a region -/
def rgHead (k n m : Nat) : List UInt8 := [82, 71, UInt8.ofNat k, 0] ++ (le 4 m ++ le 8 n)
def rgPart (b : List UInt8) (k : Nat) : List UInt8 := (b.drop (k * 368)).take 368
def rgPg (b : List UInt8) (n k : Nat) : List UInt8 := rgHead k n (rgPart b k).length ++ rgPart b k
def rgForm (p : List UInt8) (k : Nat) : Bool := decide (p.take 2 = [82, 71]) && (decide ((p.getD 2 0).toNat = k) && ((p.getD 3 0 == 0) && decide (num (cut p 4 8) ≤ 368)))
def rgN (p : List UInt8) (k : Nat) : Nat := if rgForm p k then num (cut p 8 16) else 0
def rgB (p : List UInt8) (k : Nat) : List UInt8 := if rgForm p k then cut p 16 (16 + num (cut p 4 8)) else []
def Pg.rn (p : Pg) (k : Nat) : Nat := match p with
  | .full b => rgN b k
  | _ => 0
def Pg.rb (p : Pg) (k : Nat) : List UInt8 := match p with
  | .full b => rgB b k
  | _ => []
/-- the number that stands on a page, whatever its place -/
def Pg.rs (p : Pg) : Nat := match p with
  | .full b => rgN b (b.getD 2 0).toNat
  | _ => 0

/-! a region that is read -/
def ldNums (P : Nat → Pg) (k : Nat) : List Nat := (List.range k).map fun j => (P j).rn j
def ldB (P : Nat → Pg) (k : Nat) : List UInt8 := (List.range k).flatMap fun j => (P j).rb j
def ldTop (P : Nat → Pg) (m : Nat) (k : Nat) : Nat := (List.range k).foldl (fun m j => max m (P j).rs) m
def listMin (l : List Nat) : Nat := l.tail.foldl min (l.headD 0)
def listMax (l : List Nat) : Nat := l.tail.foldl max (l.headD 0)
def ldS (P : Nat → Pg) : Sealed := match listOf (ldB P 4) with
  | some l => if listMin (ldNums P 4) = listMax (ldNums P 4) ∧ (P 0).rn 0 ≠ 0 then ⟨(P 0).rn 0, l⟩ else .no
  | none => .no
def Dev.rpg (D : Dev) (first i : Nat) : Nat → Pg := fun k => D.page (first + 4 * i + k)
def opRegs (D : Dev) (first n : Nat) : List Sealed := (List.range n).map fun i => ldS (D.rpg first i)
def opTop (D : Dev) (first n : Nat) : Nat := (List.range n).foldl (fun m i => ldTop (D.rpg first i) m 4) 0

/-! regions by rising numbers: one is put in behind the other, from the end on -/
def insR (f : Nat → Nat) (x : Nat) : List Nat → List Nat
  | [] => [x]
  | y :: r => if f x < f y then y :: insR f x r else x :: y :: r
def sortR (f : Nat → Nat) (l : List Nat) : List Nat := (l.foldl (fun r x => insR f x r) []).reverse
def rnum (regs : List Sealed) (i : Nat) : Nat := (regs.getD i .no).num
def rl (regs : List Sealed) (i : Nat) : List Item := (regs.getD i .no).l
def counts (regs : List Sealed) : List Nat := (List.range regs.length).filter fun i => decide (0 < rnum regs i)
def byNum (regs : List Sealed) : List Nat := sortR (rnum regs) (counts regs)

/-! keys -/
def layK (i : Nat) (ks : Keys) (l : List Item) : Keys := l.zipIdx.foldl (fun ks p => aset ks p.1.key ⟨false, i, p.2⟩) ks
def moveK (i : Nat) (ks : Keys) (l : List Item) : Keys := l.zipIdx.foldl (fun ks p => if aget ks p.1.key = some ⟨true, 0, p.2⟩ then aset ks p.1.key ⟨false, i, p.2⟩ else ks) ks
def giveK (i : Nat) (ks : Keys) (l : List Item) : List Item × Keys := l.zipIdx.foldl (fun s p => if aget s.2 p.1.key = some ⟨false, i, p.2⟩ then (s.1 ++ [p.1], adel s.2 p.1.key) else s) ([], ks)
def pick (ks : Keys) (pl : Nat → Pl) (l : List Item) : List Item := (l.zipIdx.filter fun p => decide (aget ks p.1.key = some (pl p.2))).map (·.1)

/-! the log -/
def Lg.openE (D : Dev) (first regions : Int) : Int := if first < 0 ∨ regions < 1 ∨ 64 < regions ∨ (D.n : Int) < first ∨ (D.n : Int) - first < 4 * regions then 1 else if D.off then 4 else 0
def Lg.opened (D : Dev) (first n : Nat) : Lg :=
  let regs := opRegs D first n
  { losses := D.losses, first, regs, opn := [], number := opTop D first n, keys := (byNum regs).foldl (fun ks i => layK i ks (rl regs i)) [] }
namespace Lg
def has (G : Lg) (key : ByteArray) : Bool := (aget G.keys key).isSome
def item (G : Lg) (p : Pl) : Item := if p.op then G.opn.getD p.ix Item.zero else (rl G.regs p.rg).getD p.ix Item.zero
def get (G : Lg) (key : ByteArray) : Item := match aget G.keys key with
  | some p => G.item p
  | none => Item.zero
def getE (G : Lg) (key : ByteArray) : Int := if G.has key then 0 else 5
def drop (G : Lg) (key : ByteArray) : Lg := { G with keys := adel G.keys key }
def items (G : Lg) : List Item := (byNum G.regs).flatMap (fun i => pick G.keys (fun at_ => ⟨false, i, at_⟩) (rl G.regs i)) ++ pick G.keys (fun at_ => ⟨true, 0, at_⟩) G.opn
def add (G : Lg) (x : Item) : Lg := { G with keys := aset G.keys x.key ⟨true, 0, G.opn.length⟩, opn := G.opn ++ [x] }
end Lg

/-- the open region is written from page k on, f pages are left; the error -/
def wrGo (base : Int) (n : Nat) (b : List UInt8) : Nat → Nat → Dev → Dev × Int
  | _, 0, D => (D.flush, D.changeE)
  | k, f + 1, D => if D.writeE (base + k) (rgPg b n k).length = 0 then wrGo base n b (k + 1) f (D.write (base + k) (rgPg b n k)) else (D.write (base + k) (rgPg b n k), D.writeE (base + k) (rgPg b n k).length)
def wr (D : Dev) (base : Int) (n : Nat) (b : List UInt8) : Dev × Int := wrGo base n b 0 4 D

structure LgR where
  G : Lg
  D : Dev
  lost : List Item
  e : Int
namespace Lg
/-- where the next region goes -/
def next (G : Lg) : Nat := (G.number + 1) % G.regs.length
def given (G : Lg) : List Item × Keys := giveK G.next G.keys (rl G.regs G.next)
def gave (G : Lg) : Lg := { G with regs := G.regs.set G.next .no, keys := G.given.2 }
def wrote (G : Lg) (D : Dev) : Dev × Int := wr D ((G.first + 4 * G.next : Nat) : Int) (G.number + 1) (records G.opn)
def shut (G : Lg) : Lg := { G with number := G.number + 1, regs := (G.regs.set G.next .no).set G.next ⟨G.number + 1, G.opn⟩, keys := moveK G.next G.given.2 G.opn, opn := [] }
def sl (G : Lg) (D : Dev) : LgR :=
  if G.opn = [] then ⟨G, D, [], 0⟩
  else if G.losses ≠ D.losses then ⟨G, D, [], 4⟩
  else if G.number = 18446744073709551615 then ⟨G, D, [], 9⟩
  else if (G.wrote D).2 = 0 then ⟨G.shut, (G.wrote D).1, G.given.1, 0⟩
  else ⟨G.gave, (G.wrote D).1, G.given.1, (G.wrote D).2⟩
def fits (x : Item) : Bool := x.good && decide (x.size ≤ 1472)
def put (G : Lg) (D : Dev) (x : Item) : LgR :=
  if fits x then
    (if isum G.opn + x.size ≤ 1472 then ⟨G.add x, D, [], 0⟩
    else if (G.sl D).e = 0 then ⟨(G.sl D).G.add x, (G.sl D).D, (G.sl D).lost, 0⟩
    else G.sl D)
  else ⟨G, D, [], 1⟩
end Lg

/-- a key's place holds an item of this key -/
def Lg.plOk (G : Lg) (key : ByteArray) (p : Pl) : Prop :=
  if p.op then p.rg = 0 ∧ ∃ x, G.opn[p.ix]? = some x ∧ x.key = key else ∃ S x, G.regs[p.rg]? = some S ∧ S.l[p.ix]? = some x ∧ x.key = key
/-- what holds of each log -/
structure Lg.Ok (G : Lg) : Prop where
  pos : 0 < G.regs.length
  most : G.regs.length ≤ 64
  fit : G.first + 4 * G.regs.length ≤ 4096
  num : G.number < 18446744073709551616
  small : ∀ S ∈ G.regs, S.l.length ≤ 1000 ∧ S.num < 18446744073709551616
  good : goods G.opn = true
  sum : isum G.opn ≤ 1472
  keys : ∀ key p, aget G.keys key = some p → G.plOk key p

theorem isum_len (l : List Item) (h : goods l = true) : l.length * 33 ≤ isum l := by
  induction l with
  | nil => simp [isum]
  | cons x r ih =>
    simp only [goods, List.all_cons, Bool.and_eq_true] at h
    have := ih h.2
    have hx := h.1
    simp only [Item.good, Bool.and_eq_true, decide_eq_true_eq] at hx
    simp only [isum, List.map_cons, List.sum_cons, List.length_cons, Item.size] at this ⊢
    omega
theorem Lg.Ok.len {G : Lg} (h : G.Ok) : G.opn.length ≤ 44 := by
  have := isum_len _ h.good
  have := h.sum
  omega
theorem lst_len : ∀ (k : Nat) (b : List UInt8) (l : List Item), lst k b = some l → l.length * 33 ≤ b.length := by
  intro k
  induction k with
  | zero => intro b l h; cases h
  | succ k ih =>
    intro b l h
    rw [lst] at h
    cases ht : take b with
    | none => rw [ht] at h; simp only [Option.some.injEq] at h; subst h; simp
    | bad => rw [ht] at h; cases h
    | ok x n =>
      rw [ht] at h
      have hl := take_ok_len ht
      simp only [Option.map_eq_some_iff] at h
      obtain ⟨r, hr, rfl⟩ := h
      have := ih _ _ hr
      rw [List.length_drop] at this
      simp only [List.length_cons]
      omega
theorem listOf_len {b : List UInt8} {l : List Item} (h : listOf b = some l) : l.length * 33 ≤ b.length := lst_len _ _ _ h

/-! keys as the memory has them -/
section
variable {V W : Type} (f : V → W)
def amap (l : List (ByteArray × V)) : List (ByteArray × W) := l.map fun p => (p.1, f p.2)
theorem aget_amap (l : List (ByteArray × V)) (k : ByteArray) : aget (amap f l) k = (aget l k).map f := by
  induction l with
  | nil => rfl
  | cons p r ih =>
    simp only [amap, List.map_cons, aget] at ih ⊢
    split
    · rfl
    · exact ih
theorem aset_amap (l : List (ByteArray × V)) (k : ByteArray) (v : V) : aset (amap f l) k (f v) = amap f (aset l k v) := by
  induction l with
  | nil => rfl
  | cons p r ih =>
    simp only [amap, List.map_cons, aset] at ih ⊢
    split
    · rfl
    · rw [List.map_cons, ih]
theorem adel_amap (l : List (ByteArray × V)) (k : ByteArray) : adel (amap f l) k = amap f (adel l k) := by
  induction l with
  | nil => rfl
  | cons p r ih =>
    simp only [amap, List.map_cons, adel] at ih ⊢
    split
    · rfl
    · rw [List.map_cons, ih]
theorem akeys_amap (l : List (ByteArray × V)) : akeys (amap f l) = akeys l := by
  simp [akeys, amap, Function.comp_def]
end
end Go.Proofs.YtplpbbdakihnfaaGreat
end

/- How a log in regions lies in memory. -/
section
namespace Go.Proofs.YtplpbbdakihnfaaGreat
open Go.RowKit
open Go.ChangeMaps (setBlock)
set_option linter.unusedSimpArgs false
set_option linter.unusedVariables false

abbrev tLog : TypeId := 131
abbrev tSeal : TypeId := 133
abbrev tSeals : TypeId := 129
abbrev tPlace : TypeId := 137
abbrev tKeys : TypeId := 128
abbrev skey : ByteArray → Value := fun s => .string s
def plv (p : Pl) : Value := .agg #[.bool p.op, .int .i64 p.rg, .int .i64 p.ix]
/-- regions' row: numbers and slices -/
def sec (p : Nat × Value) : List Value := [.int .u64 p.1, p.2]
def secs (l : List (Nat × Value)) : List Value := l.flatMap sec
theorem secs_length (l : List (Nat × Value)) : (secs l).length = l.length * 2 := by
  induction l with
  | nil => rfl
  | cons x r ih => simp only [secs, List.flatMap_cons, List.length_append, List.length_cons] at ih ⊢; rw [ih]; simp [sec]; omega
theorem secs_get (l : List (Nat × Value)) (i : Nat) (p : Nat × Value) (h : l[i]? = some p) : (secs l)[i * 2]? = some (.int .u64 p.1) ∧ (secs l)[i * 2 + 1]? = some p.2 := by
  induction l generalizing i with
  | nil => cases h
  | cons y r ih =>
    have e : secs (y :: r) = sec y ++ secs r := by simp [secs]
    rw [e]
    cases i with
    | zero =>
      simp only [List.getElem?_cons_zero, Option.some.injEq] at h
      subst h
      simp [sec]
    | succ i =>
      simp only [List.getElem?_cons_succ] at h
      have e1 : (i + 1) * 2 = (sec y).length + i * 2 := by simp [sec]; omega
      have e2 : (i + 1) * 2 + 1 = (sec y).length + (i * 2 + 1) := by simp [sec]; omega
      rw [e2, e1, List.getElem?_append_right (by omega), List.getElem?_append_right (by omega), Nat.add_sub_cancel_left, Nat.add_sub_cancel_left]
      exact ih i h
theorem secs_append (a b : List (Nat × Value)) : secs (a ++ b) = secs a ++ secs b := by simp [secs]
theorem secs_set (l : List (Nat × Value)) (i : Nat) (p : Nat × Value) (hi : i < l.length) : secs (l.set i p) = ((secs l).set (i * 2) (.int .u64 p.1)).set (i * 2 + 1) p.2 := by
  induction l generalizing i with
  | nil => simp at hi
  | cons y r ih =>
    have e : ∀ (y : Nat × Value) r, secs (y :: r) = sec y ++ secs r := by intro y r; simp [secs]
    cases i with
    | zero => simp [secs, sec]
    | succ i =>
      simp only [List.length_cons] at hi
      rw [List.set_cons_succ, e, e, ih i (by omega)]
      have e1 : (i + 1) * 2 = (sec y).length + i * 2 := by simp [sec]; omega
      have e2 : (i + 1) * 2 + 1 = (sec y).length + (i * 2 + 1) := by simp [sec]; omega
      rw [e2, e1, List.set_append_right _ _ (by omega), Nat.add_sub_cancel_left, List.set_append_right _ _ (by omega), Nat.add_sub_cancel_left]

/-- where a log lies: its struct, its keys' map, its regions' row, its open region's row; the blocks that it holds to be its own -/
structure LgH where
  L : Nat
  M : Nat
  R : Value
  O : Value
  own : Nat → Prop
/-- what its calls may change -/
def LgH.spot (t : LgH) : Nat → Prop := fun k => k = t.L ∨ k = t.M ∨ t.R.ownBlock = some k ∨ t.O.ownBlock = some k

/-- the slice v reads as the items l; its row is one of the log's own, and not the open region's -/
def SlAt (w : World) (t : LgH) (v : Value) (l : List Item) : Prop :=
  ∃ A c, v = .slice A l.length c ∧ l.length ≤ c ∧ Rd w tItem A (l.length * 5) (its l) ∧ ∀ g off, 0 < l.length → A = some ⟨g, off, none⟩ → t.own g ∧ t.O.ownBlock ≠ some g
theorem SlAt.nil (w : World) (t : LgH) : SlAt w t (.slice none 0 0) [] := ⟨none, 0, rfl, Nat.le_refl _, Rd.nil _ _ _, fun _ _ h => absurd h (by simp)⟩

structure LgAt (w : World) (h : DevH) (t : LgH) (G : Lg) : Prop where
  box : Blk w t.L tLog #[.pointer (some ⟨h.d, 0, none⟩), .int .i64 G.losses, .int .i64 G.first, t.R, t.O, .int .i64 (isum G.opn), .int .u64 G.number, .map (some t.M)]
  regs : ∃ ses : List (Nat × Value), ses.length = G.regs.length ∧ w.ownsRow 0 tSeal 2 t.R G.regs.length (secs ses) ∧ ∀ (i : Nat) (S : Sealed), G.regs[i]? = some S → ∃ v, ses[i]? = some (S.num, v) ∧ SlAt w t v S.l
  opn : w.ownsRow 0 tItem 5 t.O G.opn.length (its G.opn)
  map : MapIs skey w t.M (amap plv G.keys)
  ownL : t.own t.L
  ownM : t.own t.M
  ownR : ∀ k, t.R.ownBlock = some k → t.own k
  ownO : ∀ k, t.O.ownBlock = some k → t.own k
  lt : ∀ k, t.own k → k < w.heap.size
  far : t.M ≠ h.M
  ok : G.Ok

theorem own_ne {w : World} {v : Value} {base e size n base' e' size' n' : Nat} {xs xs' : List Value} {v' : Value} (h : w.ownsRow base e size v n xs) (h' : w.ownsRow base' e' size' v' n' xs') (hne : e ≠ e') (k : Nat) (h1 : v.ownBlock = some k) : v'.ownBlock ≠ some k := by
  rcases h.2 with ⟨rfl, _⟩ | ⟨g, cap, cur, rfl, _, hg, _⟩
  · simp [Value.ownBlock] at h1
  · have : g = k := by simpa [Value.ownBlock] using h1
    subst this
    exact own_other h' hg hne

theorem Rd.notS {S : Nat → Prop} {w w' : World} {t : TypeId} {A : Option Addr} {k : Nat} {xs : List Value} (h : Rd w t A k xs) (hc : Chg S w w') (hn : ∀ g off, 0 < k → A = some ⟨g, off, none⟩ → ¬ S g) : Rd w' t A k xs :=
  ⟨h.1, fun hk => by
    obtain ⟨g, off, cur, fz, e, hg, hx⟩ := h.2 hk
    exact ⟨g, off, cur, fz, e, hc.at_ hg (hn g off hk e), hx⟩⟩

section
variable {S : Nat → Prop} {w w' : World} {h : DevH} {t : LgH} {G : Lg}
theorem SlAt.chg {v : Value} {l : List Item} (hs : SlAt w t v l) (hc : Chg S w w') (hn : ∀ k, t.own k → t.O.ownBlock ≠ some k → ¬ S k) : SlAt w' t v l := by
  obtain ⟨A, c, e, h1, h2, h3⟩ := hs
  exact ⟨A, c, e, h1, h2.notS hc (fun g off h0 he => by have := h3 g off (by omega) he; exact hn g this.1 this.2), h3⟩
theorem LgAt.chg (hl : LgAt w h t G) (hc : Chg S w w') (hn : ∀ k, t.own k → ¬ S k) : LgAt w' h t G :=
  { hl with
    box := hl.box.chg hc (hn _ hl.ownL)
    regs := by
      obtain ⟨ses, h1, h2, h3⟩ := hl.regs
      refine ⟨ses, h1, own_chg h2 hc (fun k hk => hn k (hl.ownR k hk)), fun i S hS => ?_⟩
      obtain ⟨v, e, hv⟩ := h3 i S hS
      exact ⟨v, e, hv.chg hc (fun k hk _ => hn k hk)⟩
    opn := own_chg hl.opn hc (fun k hk => hn k (hl.ownO k hk))
    map := hl.map.chg hc (hn _ hl.ownM)
    lt := fun k hk => Nat.lt_of_lt_of_le (hl.lt k hk) hc.size }
theorem LgAt.chgNo (hl : LgAt w h t G) (hc : Chg No w w') : LgAt w' h t G := hl.chg hc (fun _ _ h => h)
/-- what the device changes is none of the log's spots -/
theorem LgAt.not_foot {N : Nat} {D : Dev} (hl : LgAt w h t G) (hd : DevN N w h D) (k : Nat) (hk : t.spot k) : ¬ h.foot k := by
  rcases hk with rfl | rfl | hk | hk
  · exact hd.not_foot hl.box (by decide) (by decide)
  · rintro (hk | hk | hk)
    · obtain ⟨a, b, c, e, hb⟩ := hd.box
      exact hl.map.ne_blk hb hk
    · obtain ⟨ps, hb, _⟩ := hd.row
      exact hl.map.ne_blk hb hk
    · exact hl.far hk
  · obtain ⟨ses, _, h2, _⟩ := hl.regs
    rcases h2.2 with ⟨e, _⟩ | ⟨g, cap, cur, e, _, hg, _⟩
    · rw [e] at hk; simp [Value.ownBlock] at hk
    · rw [e] at hk
      have : g = k := by simpa [Value.ownBlock] using hk
      subst this
      exact hd.not_foot hg (by decide) (by decide)
  · rcases hl.opn.2 with ⟨e, _⟩ | ⟨g, cap, cur, e, _, hg, _⟩
    · rw [e] at hk; simp [Value.ownBlock] at hk
    · rw [e] at hk
      have : g = k := by simpa [Value.ownBlock] using hk
      subst this
      exact hd.not_foot hg (by decide) (by decide)
theorem LgAt.spot_ty (hl : LgAt w h t G) (k : Nat) (hk : t.spot k) (cs : Array Value) (T : TypeId) (hb : Blk w k T cs) : T = tLog ∨ T = tSeal ∨ T = tItem := by
  rcases hk with rfl | rfl | hk | hk
  · exact .inl (by have h1 := hl.box; unfold Blk at h1 hb; rw [h1] at hb; injection hb with hb; injection hb with _ hb; exact hb.symm)
  · exact absurd rfl (hl.map.ne_blk hb)
  · obtain ⟨ses, _, h2, _⟩ := hl.regs
    rcases h2.2 with ⟨e, _⟩ | ⟨g, cap, cur, e, _, hg, _⟩
    · rw [e] at hk; simp [Value.ownBlock] at hk
    · rw [e] at hk
      have : g = k := by simpa [Value.ownBlock] using hk
      subst this
      unfold Blk at hb; rw [hg] at hb; injection hb with hb; injection hb with _ hb
      exact .inr (.inl hb.symm)
  · rcases hl.opn.2 with ⟨e, _⟩ | ⟨g, cap, cur, e, _, hg, _⟩
    · rw [e] at hk; simp [Value.ownBlock] at hk
    · rw [e] at hk
      have : g = k := by simpa [Value.ownBlock] using hk
      subst this
      unfold Blk at hb; rw [hg] at hb; injection hb with hb; injection hb with _ hb
      exact .inr (.inr hb.symm)
/-- what the log changes leaves the device as it is -/
theorem LgAt.dev {N : Nat} {D : Dev} (hl : LgAt w h t G) (hd : DevN N w h D) (hc : Chg S w w') (hS : ∀ k, k < w.heap.size → S k → t.spot k) : DevN N w' h D := by
  have hlt : ∀ k, h.foot k → k < w.heap.size := by
    intro k hk
    rcases hk with rfl | rfl | rfl
    · obtain ⟨a, b, c, e, hb⟩ := hd.box; exact hb.lt
    · obtain ⟨ps, hb, _⟩ := hd.row; exact hb.lt
    · obtain ⟨es, hm, _⟩ := hd.map; exact hm.lt
  have hf : ∀ k, h.foot k → ¬ S k := fun k hk hs => hl.not_foot hd k (hS k (hlt k hk) hs) hk
  refine hd.chg hc (hf _ (.inl rfl)) (hf _ (.inr (.inl rfl))) (hf _ (.inr (.inr rfl))) ?_
  intro g cs T hg hT hb hs
  rcases hl.spot_ty g (hS g hb.lt hs) cs T hb with rfl | rfl | rfl <;> rcases hT with hT | hT <;> exact absurd hT (by decide)
/-- what the device changes leaves the log as it is -/
theorem LgAt.foot {N : Nat} {D : Dev} (hl : LgAt w h t G) (hd : DevN N w h D) (hc : Chg h.foot w w') : LgAt w' h t G := by
  have hs : ∀ k, t.spot k → ¬ h.foot k := fun k hk => hl.not_foot hd k hk
  have hrow : ∀ v l, SlAt w t v l → SlAt w' t v l := by
    rintro v l ⟨A, c, e, h1, h2, h3⟩
    exact ⟨A, c, e, h1, h2.chg hc (fun g cur fz hg => hd.not_foot hg (by decide) (by decide)), h3⟩
  exact { hl with
    box := hl.box.chg hc (hs _ (.inl rfl))
    regs := by
      obtain ⟨ses, h1, h2, h3⟩ := hl.regs
      refine ⟨ses, h1, own_chg h2 hc (fun k hk => hs k (.inr (.inr (.inl hk)))), fun i S hS => ?_⟩
      obtain ⟨v, e, hv⟩ := h3 i S hS
      exact ⟨v, e, hrow _ _ hv⟩
    opn := own_chg hl.opn hc (fun k hk => hs k (.inr (.inr (.inr hk))))
    map := hl.map.chg hc (hs _ (.inr (.inl rfl)))
    lt := fun k hk => Nat.lt_of_lt_of_le (hl.lt k hk) hc.size }
theorem LgAt.nodup (hl : LgAt w h t G) : (akeys G.keys).Nodup := by
  have := hl.map.nodup
  rwa [akeys_amap] at this
end
end Go.Proofs.YtplpbbdakihnfaaGreat
end
