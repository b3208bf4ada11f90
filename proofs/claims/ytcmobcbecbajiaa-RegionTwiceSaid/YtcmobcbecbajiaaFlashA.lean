/- The flash device's small functions, walked: has, Pages, Losses, Power, Arm, spend. -/
import Derived.Test.YtcmobcbecbajiaaFlashRep
namespace Go.Proofs.Ytcmobcbecbajiaa
open Go.RowKit
open Go.ChangeMaps (setBlock)
set_option linter.unusedSimpArgs false
set_option linter.unusedVariables false

section
variable {N : Nat} {w : World} {h : DevH} {D : Dev}

theorem has_calls (hd : DevN N w h D) (k : Int) :
    Calls Try.prog 75 #[.pointer (some ⟨h.d, 0, none⟩), .int .i64 k] w fun e w' => e = .returned (.bool (D.has k)) ∧ w = w' := by
  obtain ⟨a, b, c, e, hb⟩ := hd.box
  have h0 := hb.cell 0
  simp at h0
  have hn := hd.nmost
  by_cases c1 : 0 ≤ k
  · by_cases c2 : k < D.n
    · have hv : D.has k = true := by simp [Dev.has, c1, c2]
      rw [hv]; clear hv
      go_enter Try.func75, Try.ntmps75
      go_wp2
      go_ret
      exact ⟨rfl, rfl⟩
    · have hv : D.has k = false := by simp [Dev.has, c2]
      rw [hv]; clear hv
      go_enter Try.func75, Try.ntmps75
      go_wp2
      go_ret
      exact ⟨rfl, rfl⟩
  · have hv : D.has k = false := by simp [Dev.has, c1]
    rw [hv]; clear hv
    go_enter Try.func75, Try.ntmps75
    go_wp2
    go_ret
    exact ⟨rfl, rfl⟩

theorem pages_calls (hd : DevN N w h D) :
    Calls Try.prog 57 #[.pointer (some ⟨h.d, 0, none⟩)] w fun e w' => e = .returned (.int .i64 D.n) ∧ w = w' := by
  obtain ⟨a, b, c, e, hb⟩ := hd.box
  have h0 := hb.cell 0
  simp at h0
  go_enter Try.func57, Try.ntmps57
  go_wp2
  go_ret
  exact ⟨rfl, rfl⟩

theorem losses_calls (hd : DevN N w h D) :
    Calls Try.prog 59 #[.pointer (some ⟨h.d, 0, none⟩)] w fun e w' => e = .returned (.int .i64 D.losses) ∧ w = w' := by
  obtain ⟨a, b, c, e, hb⟩ := hd.box
  have h0 := hb.cell 4
  simp at h0
  go_enter Try.func59, Try.ntmps59
  go_wp2
  go_ret
  exact ⟨rfl, rfl⟩

theorem power_calls (hd : DevN N w h D) :
    Calls Try.prog 60 #[.pointer (some ⟨h.d, 0, none⟩)] w fun e w' => e = .returned (.bool (!D.off)) ∧ w = w' := by
  obtain ⟨a, b, c, e, hb⟩ := hd.box
  have h0 := hb.cell 2
  simp at h0
  go_enter Try.func60, Try.ntmps60
  go_wp2
  go_ret
  exact ⟨rfl, rfl⟩

theorem arm_calls (hd : DevN N w h D) (n : Int) (hn : n ≤ 9223372036854775807) :
    Calls Try.prog 38 #[.pointer (some ⟨h.d, 0, none⟩), .int .i64 n] w fun e w' => e = .returned (.tuple #[]) ∧ DevAt w' h (D.arm n) ∧ Chg h.foot w w' := by
  obtain ⟨a, b, c, e, hb⟩ := hd.box
  have h3 := hb.cell 3
  simp at h3
  have f3 := hb.frozen 3
  have fin : ∀ m : Int, m = (if 0 ≤ n then n else 0) → DevAt (w.setCell ⟨h.d, 3, none⟩ (.int .i64 m)) h (D.arm n) ∧ Chg h.foot w (w.setCell ⟨h.d, 3, none⟩ (.int .i64 m)) := by
    intro m hm
    have hc : Chg h.foot w (w.setCell ⟨h.d, 3, none⟩ (.int .i64 m)) := by (repeat (first | (with_reducible exact Chg.refl _ _) | (with_reducible assumption) | (with_reducible refine Chg.drewN ?_ _) | (with_reducible refine Chg.drew ?_) | (with_reducible refine Chg.alloc ?_ _) | (with_reducible refine Chg.setCell ?_ (by first | (left; simp [DevH.foot]; done) | (right; simp; done) | (right; simp; omega)) _)))
    refine ⟨hd.step hc rfl ⟨a, b, c, e, ?_⟩ (.inr ⟨rfl, ?_⟩) (.inr ⟨rfl, ?_⟩) ?_, hc⟩
    · have := hb.set_ 3 (.int .i64 m)
      simpa [Dev.arm, hm] using this
    · exact Below.heap_setCell _ _ _ _ (by obtain ⟨ps, g, _⟩ := hd.row; exact (g.ne_ hb (by decide)))
    · exact Below.heap_setCell _ _ _ _ (by obtain ⟨es, g, _⟩ := hd.map; exact (g.ne_blk hb))
    · simp only [Dev.arm]; split <;> omega
  have F := Lib.hid fin
  clear fin
  by_cases c1 : 0 ≤ n
  · go_enter Try.func38, Try.ntmps38
    go_wp2
    go_end0
    exact ⟨rfl, F.out _ (by rw [if_pos c1]; try omega)⟩
  · go_enter Try.func38, Try.ntmps38
    go_wp2
    go_end0
    exact ⟨rfl, F.out _ (by rw [if_neg (by omega)])⟩

theorem spend_calls (hd : DevN N w h D) :
    Calls Try.prog 79 #[.pointer (some ⟨h.d, 0, none⟩)] w fun e w' => e = .returned (.bool D.spent) ∧ DevAt w' h D.spend ∧ Chg h.foot w w' := by
  obtain ⟨a, b, c, e, hb⟩ := hd.box
  obtain ⟨ha0, ha1⟩ := hd.armed
  have nF : h.F ≠ h.d := by obtain ⟨ps, g, _⟩ := hd.row; exact (g.ne_ hb (by decide))
  have nM : h.M ≠ h.d := by obtain ⟨es, g, _⟩ := hd.map; exact (g.ne_blk hb)
  have h2 := hb.cell 2
  have h3 := hb.cell 3
  have h4 := hb.cell 4
  simp at h2 h3 h4
  have f2 := hb.frozen 2
  have f3 := hb.frozen 3
  have f4 := hb.frozen 4
  by_cases c0 : D.off = true
  · have hs : D.spend = D := by simp [Dev.spend, c0]
    have hv : D.spent = false := by simp [Dev.spent, c0]
    rw [hs, hv]
    rw [c0] at h2
    clear hs hv c0
    have HD := Lib.hid hd.at_
    clear hd hb
    go_enter Try.func79, Try.ntmps79
    go_wp2
    go_ret
    exact ⟨rfl, HD.out, Chg.refl _ _⟩
  · have c0' : D.off = false := by simpa using c0
    rw [c0'] at h2
    by_cases c1 : D.armed = 1
    · have hs : D.spend = { D with armed := 0, off := true, losses := Dev.more D.losses } := by simp [Dev.spend, c0, c1]
      have hv : D.spent = false := by simp [Dev.spent, c1]
      rw [c1] at h3
      have fin : DevAt (((w.setCell ⟨h.d, 3, none⟩ (.int .i64 0)).setCell ⟨h.d, 2, none⟩ (.bool true)).setCell ⟨h.d, 4, none⟩ (.int .i64 (wrap64 (D.losses + 1)))) h D.spend ∧ Chg h.foot w (((w.setCell ⟨h.d, 3, none⟩ (.int .i64 0)).setCell ⟨h.d, 2, none⟩ (.bool true)).setCell ⟨h.d, 4, none⟩ (.int .i64 (wrap64 (D.losses + 1)))) := by
        have hc : Chg h.foot w (((w.setCell ⟨h.d, 3, none⟩ (.int .i64 0)).setCell ⟨h.d, 2, none⟩ (.bool true)).setCell ⟨h.d, 4, none⟩ (.int .i64 (wrap64 (D.losses + 1)))) := by (repeat (first | (with_reducible exact Chg.refl _ _) | (with_reducible assumption) | (with_reducible refine Chg.drewN ?_ _) | (with_reducible refine Chg.drew ?_) | (with_reducible refine Chg.alloc ?_ _) | (with_reducible refine Chg.setCell ?_ (by first | (left; simp [DevH.foot]; done) | (right; simp; done) | (right; simp; omega)) _)))
        refine ⟨?_, hc⟩
        rw [hs]
        refine hd.step hc rfl ⟨a, b, c, e, ?_⟩ (.inr ⟨rfl, ?_⟩) (.inr ⟨rfl, ?_⟩) (by simp)
        · have := ((hb.set_ 3 (.int .i64 0)).set_ 2 (.bool true)).set_ 4 (.int .i64 (wrap64 (D.losses + 1)))
          simpa [Dev.more] using this
        · rw [Below.heap_setCell _ _ _ _ nF, Below.heap_setCell _ _ _ _ nF, Below.heap_setCell _ _ _ _ nF]
        · rw [Below.heap_setCell _ _ _ _ nM, Below.heap_setCell _ _ _ _ nM, Below.heap_setCell _ _ _ _ nM]
      rw [hv]
      have F := Lib.hid fin
      clear fin hs hv c0 c0' c1 hd hb
      go_enter Try.func79, Try.ntmps79
      go_wp2
      go_ret
      exact ⟨rfl, F.out⟩
    · have hv : D.spent = true := by simp [Dev.spent, c0', c1]
      by_cases c2 : 0 < D.armed
      · have hs : D.spend = { D with armed := D.armed - 1 } := by simp [Dev.spend, c0, c1, c2]
        have fin : DevAt (w.setCell ⟨h.d, 3, none⟩ (.int .i64 (D.armed - 1))) h D.spend ∧ Chg h.foot w (w.setCell ⟨h.d, 3, none⟩ (.int .i64 (D.armed - 1))) := by
          have hc : Chg h.foot w (w.setCell ⟨h.d, 3, none⟩ (.int .i64 (D.armed - 1))) := by (repeat (first | (with_reducible exact Chg.refl _ _) | (with_reducible assumption) | (with_reducible refine Chg.drewN ?_ _) | (with_reducible refine Chg.drew ?_) | (with_reducible refine Chg.alloc ?_ _) | (with_reducible refine Chg.setCell ?_ (by first | (left; simp [DevH.foot]; done) | (right; simp; done) | (right; simp; omega)) _)))
          refine ⟨?_, hc⟩
          rw [hs]
          refine hd.step hc rfl ⟨a, b, c, e, ?_⟩ (.inr ⟨rfl, ?_⟩) (.inr ⟨rfl, ?_⟩) (by simp; omega)
          · have := (hb.set_ 3 (.int .i64 (D.armed - 1)))
            simpa using this
          · rw [Below.heap_setCell _ _ _ _ nF]
          · rw [Below.heap_setCell _ _ _ _ nM]
        have c3 : (D.armed - 1 == 0) = false := by simp; omega
        rw [hv]
        have F := Lib.hid fin
        clear fin hs hv c0 c0' hd hb
        go_enter Try.func79, Try.ntmps79
        go_wp2
        go_ret
        exact ⟨rfl, F.out⟩
      · have hs : D.spend = D := by simp [Dev.spend, c1, c2]
        rw [hs, hv]
        have HD := Lib.hid hd.at_
        clear hs hv c0 c0' hd hb
        go_enter Try.func79, Try.ntmps79
        go_wp2
        go_ret
        exact ⟨rfl, HD.out, Chg.refl _ _⟩
end
end Go.Proofs.Ytcmobcbecbajiaa
