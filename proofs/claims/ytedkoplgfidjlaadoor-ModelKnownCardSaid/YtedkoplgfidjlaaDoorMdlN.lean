/- The document's commands told as the program's: ref17.key, short, Back, walked. -/
import Derived.Test.YtedkoplgfidjlaaDoorMdlG
namespace Go.Proofs.YtedkoplgfidjlaaDoor
open Go.RowKit
attribute [local go_sem ↓] Go.wp_at_zero Go.wp_at_succ
set_option linter.unusedSimpArgs false
set_option linter.unusedVariables false

abbrev tDC : TypeId := 38
/-- keys in memory, whatever the block's type -/
def KeysT (w : World) (t : TypeId) (A : Option Addr) (n : Nat) (ks : List ByteArray) : Prop := Rd w t A n (ks.map .string) ∧ n = ks.length ∧ n * 16 ≤ 140737488355328
theorem KeysT.chgNo {w w' : World} {t : TypeId} {A : Option Addr} {n : Nat} {ks : List ByteArray} (h : KeysT w t A n ks) (hc : Chg No w w') : KeysT w' t A n ks := ⟨h.1.chg hc (fun _ _ _ _ h => h), h.2⟩
theorem dkey_calls {w : World} (c : CmdP) {t : TypeId} {A : Option Addr} {n : Nat} (h : KeysT w t A n c.ks) (cp : Nat) :
    Calls Tryd.prog 29 #[.agg (cmdc c A n cp)] w fun e w' => e = .returned (.string (fstKey c.ks)) ∧ w' = w.alloc (.cells (cmdc c A n cp) tDC) := by
  obtain ⟨ks, hks⟩ : ∃ ks, ks = c.ks := ⟨_, rfl⟩
  rw [← hks] at h ⊢
  unfold cmdc
  rcases Nat.eq_zero_or_pos n with h0 | h0
  · subst h0
    obtain rfl : ks = [] := List.length_eq_zero_iff.1 h.2.1.symm
    clear h hks
    go_enter Tryd.func29, Tryd.ntmps29
    go_wp2_with fail
    go_ret
    exact ⟨rfl, rfl⟩
  · obtain ⟨g, off, rfl, hg, hcells⟩ := h.1.at_ h0
    cases ks with
    | nil => have := h.2.1; simp at this; omega
    | cons k r =>
      have hc0 := hcells 0 (.string k) (by rfl)
      have hn0 : ((n : Int) == 0) = false := by simp; omega
      have hni : (0 : Int) < (n : Int) := by omega
      rw [Nat.add_zero] at hc0
      clear h hks hcells
      go_enter Tryd.func29, Tryd.ntmps29
      go_wp2_with fail
      go_ret
      exact ⟨rfl, rfl⟩
/-- x[:hi] -/
theorem sub_slice_h {P : Program} {T e : TypeId} {z : Value} {size bytes : Nat} (hT : P.underlying T = some (.slice e)) (hi : TI P e z size bytes) (A : Option Addr) (n c h : Nat) (h2 : h ≤ c) :
    ∃ A', (∀ W : World, (Instr.slice T (.slice A n c) none (some (.int .i64 h)) none).run P W = .ok (.slice A' h c) W) ∧
      ∀ (W : World) (t : TypeId) (xs : List Value), Rd W t A (n * size) xs → h ≤ n → Rd W t A' (h * size) (xs.take (h * size)) := by
  obtain ⟨i, hi', hz, hs, hby⟩ := info_parts hi
  refine ⟨if c = 0 then A else A.map (·.add (0 * size)), fun W => ?_, fun W t xs hr hn => ?_⟩
  · have hsz : (sizeOf e).run P W = .ok size W := by simp [sizeOf, typeInfo, hi', hs]
    simp only [Instr.slice, Sem.run_bind, run_underlying hT, Result.andThen, Instr.sliceBounds, Sem.run_pure]
    rw [run_sliceBound _ _ _ _ _ (by omega) (by omega)]
    simp only [hsz, Option.isSome_none, Bool.false_eq_true, if_false]
    simp
  · have ht := hr.take (m := h * size) (Nat.mul_le_mul_right _ hn)
    have e : (if c = 0 then A else A.map (·.add (0 * size))) = A := by
      split
      · rfl
      · cases A with
        | none => rfl
        | some a => simp [Addr.add]
    rw [e]
    exact ht
abbrev tStrs : TypeId := 27
def sGet : ByteArray := ⟨#[103, 101, 116]⟩
set_option maxRecDepth 100000 in
/-- short: one key, but for a Get -/
theorem short_calls {w : World} (c : CmdP) {t : TypeId} {A : Option Addr} {n : Nat} (h : KeysT w t A n c.ks) (cp : Nat) (hcp : n ≤ cp) :
    Calls Tryd.prog 12 #[.agg (cmdc c A n cp)] w fun e w' => (∃ c' A' n', e = .returned (.agg (cmdc c' A' n' cp)) ∧ KeysT w' t A' n' c'.ks ∧ c'.exp = c.exp ∧ n' ≤ n) ∧ Chg No w w' := by
  obtain ⟨what, verb, ks, data, flags, exp, cas, by_, wc, wt, dn, qt⟩ := c
  simp only [cmdc] at h ⊢
  have HK := Lib.hid h
  by_cases h1 : n ≤ 1
  · have hi1 : ¬ (1 : Int) < (n : Int) := by omega
    clear h
    go_enter Tryd.func12, Tryd.ntmps12
    go_wp2_with fail
    all_goals
      have HB := (Blk.new (w.alloc (.cells (cmdc ⟨what, verb, ks, data, flags, exp, cas, by_, wc, wt, dn, qt⟩ A n cp) tDC)) tDC (cmdc ⟨what, verb, ks, data, flags, exp, cas, by_, wc, wt, dn, qt⟩ A n cp))
      have z0 := HB.cell 0
      have z1 := HB.cell 1
      have z2 := HB.cell 2
      have z3 := HB.cell 3
      have z4 := HB.cell 4
      have z5 := HB.cell 5
      have z6 := HB.cell 6
      have z7 := HB.cell 7
      have z8 := HB.cell 8
      have z9 := HB.cell 9
      have z10 := HB.cell 10
      have z11 := HB.cell 11
      simp [cmdc] at z0 z1 z2 z3 z4 z5 z6 z7 z8 z9 z10 z11
      refine bodyPost_ret (v := .agg (cmdc ⟨what, verb, ks, data, flags, exp, cas, by_, wc, wt, dn, qt⟩ A n cp)) (by simp [results, Tryd.results12, go_sem, cmdc, z0, z1, z2, z3, z4, z5, z6, z7, z8, z9, z10, z11]) rfl ⟨⟨⟨what, verb, ks, data, flags, exp, cas, by_, wc, wt, dn, qt⟩, A, n, rfl, (HK.out.chgNo (by (repeat (first | (with_reducible exact Chg.refl _ _) | (with_reducible assumption) | (with_reducible refine Chg.drewN ?_ _) | (with_reducible refine Chg.drew ?_) | (with_reducible refine Chg.alloc ?_ _) | (with_reducible refine Chg.setCell ?_ (by first | (left; simp [DevH.foot]; done) | (right; simp; done) | (right; simp; omega)) _))))), rfl, by omega⟩, by (repeat (first | (with_reducible exact Chg.refl _ _) | (with_reducible assumption) | (with_reducible refine Chg.drewN ?_ _) | (with_reducible refine Chg.drew ?_) | (with_reducible refine Chg.alloc ?_ _) | (with_reducible refine Chg.setCell ?_ (by first | (left; simp [DevH.foot]; done) | (right; simp; done) | (right; simp; omega)) _)))⟩
  · have hi1 : (1 : Int) < (n : Int) := by omega
    obtain ⟨A9, hs9, hd9⟩ := sub_slice_h (P := Tryd.prog) Tryd.underlying27 ti_str A n cp 1 (by omega)
    have hs9' : ∀ W : World, (Instr.sliceAt tStrs (.slice A n cp) none (some (.int .i64 1)) none).run Tryd.prog W = _ := fun W => (run_sliceAt_slice W _ _ _ _ _ Tryd.underlying27).trans (hs9 W)
    have HK9 : Hid (KeysT w t A9 1 (ks.take 1)) := by
      obtain ⟨q1, q2, q3⟩ := h
      have := hd9 w t _ (by rw [Nat.mul_one]; exact q1) (by omega)
      refine ⟨?_, by rw [List.length_take]; omega, by omega⟩
      rw [List.map_take]; exact this
    clear h hd9
    go_enter Tryd.func12, Tryd.ntmps12
    go_wp2_with fail
    · skip
      have HB := (Blk.new (w.alloc (.cells (cmdc ⟨what, verb, ks, data, flags, exp, cas, by_, wc, wt, dn, qt⟩ A n cp) tDC)) tDC (cmdc ⟨what, verb, ks, data, flags, exp, cas, by_, wc, wt, dn, qt⟩ A n cp))
      have z0 := HB.cell 0
      have z1 := HB.cell 1
      have z2 := HB.cell 2
      have z3 := HB.cell 3
      have z4 := HB.cell 4
      have z5 := HB.cell 5
      have z6 := HB.cell 6
      have z7 := HB.cell 7
      have z8 := HB.cell 8
      have z9 := HB.cell 9
      have z10 := HB.cell 10
      have z11 := HB.cell 11
      simp [cmdc] at z0 z1 z2 z3 z4 z5 z6 z7 z8 z9 z10 z11
      refine bodyPost_ret (v := .agg (cmdc ⟨what, verb, ks, data, flags, exp, cas, by_, wc, wt, dn, qt⟩ A n cp)) (by simp [results, Tryd.results12, go_sem, cmdc, z0, z1, z2, z3, z4, z5, z6, z7, z8, z9, z10, z11]) rfl ⟨⟨⟨what, verb, ks, data, flags, exp, cas, by_, wc, wt, dn, qt⟩, A, n, rfl, (HK.out.chgNo (by (repeat (first | (with_reducible exact Chg.refl _ _) | (with_reducible assumption) | (with_reducible refine Chg.drewN ?_ _) | (with_reducible refine Chg.drew ?_) | (with_reducible refine Chg.alloc ?_ _) | (with_reducible refine Chg.setCell ?_ (by first | (left; simp [DevH.foot]; done) | (right; simp; done) | (right; simp; omega)) _))))), rfl, by omega⟩, by (repeat (first | (with_reducible exact Chg.refl _ _) | (with_reducible assumption) | (with_reducible refine Chg.drewN ?_ _) | (with_reducible refine Chg.drew ?_) | (with_reducible refine Chg.alloc ?_ _) | (with_reducible refine Chg.setCell ?_ (by first | (left; simp [DevH.foot]; done) | (right; simp; done) | (right; simp; omega)) _)))⟩
    · skip
      have HB := (Blk.new (w.alloc (.cells (cmdc ⟨what, verb, (ks.take 1), data, flags, exp, cas, by_, wc, wt, dn, qt⟩ A9 1 cp) tDC)) tDC (cmdc ⟨what, verb, (ks.take 1), data, flags, exp, cas, by_, wc, wt, dn, qt⟩ A9 1 cp))
      have z0 := HB.cell 0
      have z1 := HB.cell 1
      have z2 := HB.cell 2
      have z3 := HB.cell 3
      have z4 := HB.cell 4
      have z5 := HB.cell 5
      have z6 := HB.cell 6
      have z7 := HB.cell 7
      have z8 := HB.cell 8
      have z9 := HB.cell 9
      have z10 := HB.cell 10
      have z11 := HB.cell 11
      simp [cmdc] at z0 z1 z2 z3 z4 z5 z6 z7 z8 z9 z10 z11
      refine bodyPost_ret (v := .agg (cmdc ⟨what, verb, (ks.take 1), data, flags, exp, cas, by_, wc, wt, dn, qt⟩ A9 1 cp)) (by simp [results, Tryd.results12, go_sem, cmdc, z0, z1, z2, z3, z4, z5, z6, z7, z8, z9, z10, z11]) rfl ⟨⟨⟨what, verb, (ks.take 1), data, flags, exp, cas, by_, wc, wt, dn, qt⟩, A9, 1, rfl, (HK9.out.chgNo (by (repeat (first | (with_reducible exact Chg.refl _ _) | (with_reducible assumption) | (with_reducible refine Chg.drewN ?_ _) | (with_reducible refine Chg.drew ?_) | (with_reducible refine Chg.alloc ?_ _) | (with_reducible refine Chg.setCell ?_ (by first | (left; simp [DevH.foot]; done) | (right; simp; done) | (right; simp; omega)) _))))), rfl, by omega⟩, by (repeat (first | (with_reducible exact Chg.refl _ _) | (with_reducible assumption) | (with_reducible refine Chg.drewN ?_ _) | (with_reducible refine Chg.drew ?_) | (with_reducible refine Chg.alloc ?_ _) | (with_reducible refine Chg.setCell ?_ (by first | (left; simp [DevH.foot]; done) | (right; simp; done) | (right; simp; omega)) _)))⟩
    · skip
      have HB := (Blk.new (w.alloc (.cells (cmdc ⟨what, verb, ks, data, flags, exp, cas, by_, wc, wt, dn, qt⟩ A n cp) tDC)) tDC (cmdc ⟨what, verb, ks, data, flags, exp, cas, by_, wc, wt, dn, qt⟩ A n cp))
      have z0 := HB.cell 0
      have z1 := HB.cell 1
      have z2 := HB.cell 2
      have z3 := HB.cell 3
      have z4 := HB.cell 4
      have z5 := HB.cell 5
      have z6 := HB.cell 6
      have z7 := HB.cell 7
      have z8 := HB.cell 8
      have z9 := HB.cell 9
      have z10 := HB.cell 10
      have z11 := HB.cell 11
      simp [cmdc] at z0 z1 z2 z3 z4 z5 z6 z7 z8 z9 z10 z11
      refine bodyPost_ret (v := .agg (cmdc ⟨what, verb, ks, data, flags, exp, cas, by_, wc, wt, dn, qt⟩ A n cp)) (by simp [results, Tryd.results12, go_sem, cmdc, z0, z1, z2, z3, z4, z5, z6, z7, z8, z9, z10, z11]) rfl ⟨⟨⟨what, verb, ks, data, flags, exp, cas, by_, wc, wt, dn, qt⟩, A, n, rfl, (HK.out.chgNo (by (repeat (first | (with_reducible exact Chg.refl _ _) | (with_reducible assumption) | (with_reducible refine Chg.drewN ?_ _) | (with_reducible refine Chg.drew ?_) | (with_reducible refine Chg.alloc ?_ _) | (with_reducible refine Chg.setCell ?_ (by first | (left; simp [DevH.foot]; done) | (right; simp; done) | (right; simp; omega)) _))))), rfl, by omega⟩, by (repeat (first | (with_reducible exact Chg.refl _ _) | (with_reducible assumption) | (with_reducible refine Chg.drewN ?_ _) | (with_reducible refine Chg.drew ?_) | (with_reducible refine Chg.alloc ?_ _) | (with_reducible refine Chg.setCell ?_ (by first | (left; simp [DevH.foot]; done) | (right; simp; done) | (right; simp; omega)) _)))⟩
end Go.Proofs.YtedkoplgfidjlaaDoor
