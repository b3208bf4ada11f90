/- A step's command, as the program has it: backs, walked. -/
import Derived.Test.YtedkoplgfidjlaaDoorMdlO
namespace Go.Proofs.YtedkoplgfidjlaaDoor
open Go.RowKit
attribute [local go_sem ↓] Go.wp_at_zero Go.wp_at_succ
set_option linter.unusedSimpArgs false
set_option linter.unusedVariables false

/-- a step of the law's, and where its keys lie -/
structure StepP where
  c : CmdP
  A : Option Addr
  n : Nat
  cp : Nat
  t : TypeId
  now : Int
  v : UInt64
  lose : ByteArray
abbrev tStep : TypeId := 41
abbrev stpc (s : StepP) : Array Value := #[.string s.c.what, .string s.c.verb, .slice s.A s.n s.cp, .string s.c.data, .int .u32 s.c.flags.toNat, .int .i64 s.c.exp, .int .u64 s.c.cas.toNat, .int .u64 s.c.by_.toNat, .bool s.c.wc, .bool s.c.wt, .bool s.c.dn, .bool s.c.qt, .int .i64 s.now, .int .u64 s.v.toNat, .string s.lose]
def StepOk (w : World) (s : StepP) : Prop := KeysT w s.t s.A s.n s.c.ks ∧ s.n ≤ s.cp ∧ tmOk s.c.exp ∧ tmOk s.now
theorem StepOk.chgNo {w w' : World} {s : StepP} (h : StepOk w s) (hc : Chg No w w') : StepOk w' s := ⟨h.1.chgNo hc, h.2⟩
/-- a command that Do may have -/
def CmdO (w : World) (u : Value) : Prop := ∃ c A n cp, u = .agg (cmdc c A n cp) ∧ KeysAt w A n c.ks ∧ tmOk c.exp
theorem CmdU.o {w : World} {e : Int} {u : Value} (h : CmdU w e u) (he : tmOk e) : CmdO w u := by
  obtain ⟨c, A, n, cp, h1, h2, h3⟩ := h
  refine ⟨c, A, n, cp, h1, h2, ?_⟩
  rcases h3 with h3 | h3
  · rw [h3]; exact he
  · rw [h3]; exact ⟨by decide, by decide⟩
set_option maxRecDepth 100000 in
/-- Back of short -/
theorem bshort_calls {w : World} (c : CmdP) {t : TypeId} {A : Option Addr} {n : Nat} (h : KeysT w t A n c.ks) (he : tmOk c.exp) (cp : Nat) :
    Calls Tryd.prog 11 #[.agg (cmdc c A n cp)] w fun e w' => (∃ c' A' n' cp', e = .returned (.agg (cmdc c' A' n' cp')) ∧ KeysAt w' A' n' c'.ks ∧ tmOk c'.exp) ∧ Chg No w w' := by
  refine (back_calls c h cp).mono ?_
  rintro e w' ⟨⟨u, rfl, hu⟩, hc⟩
  obtain ⟨c', A', n', cp', rfl, h2, h3⟩ := hu.o he
  exact ⟨⟨c', A', n', cp', rfl, h2, h3⟩, hc⟩
set_option maxRecDepth 100000 in
set_option maxHeartbeats 4000000 in
theorem backs_calls {w : World} (s : StepP) (h : StepOk w s) :
    Calls Tryd.prog 16 #[.agg (stpc s)] w fun e w' => (∃ c A n cp, e = .returned (.agg (cmdc c A n cp)) ∧ KeysAt w' A n c.ks ∧ tmOk c.exp) ∧ Chg No w w' := by
  have HS := fun W => Lib.hid (fun hc : Chg No w W => short_calls s.c (h.1.chgNo hc) s.cp h.2.1)
  have HT := Lib.hid h.2.2.1
  have HZ := Lib.hid (Blk.new (w.alloc (.cells (stpc s) tStep)) tCmd zcmd)
  obtain ⟨c0, A0, n0, cp0, t0, now0, v0, lose0⟩ := s
  obtain ⟨what, verb, ks, data, flags, exp, cas, by_, wc, wt, dn, qt⟩ := c0
  simp only [stpc, cmdc] at HS HZ HT ⊢
  rw [World.size_alloc] at HZ
  clear h
  go_enter Tryd.func16, Tryd.ntmps16
  go_wp2_with fail
  refine ((HS _).out (by (repeat (first | (with_reducible exact Chg.refl _ _) | (with_reducible assumption) | (with_reducible refine Chg.drewN ?_ _) | (with_reducible refine Chg.drew ?_) | (with_reducible refine Chg.alloc ?_ _) | (with_reducible refine Chg.setCell ?_ (by first | (left; simp [DevH.foot]; done) | (right; simp; done) | (right; simp; omega)) _))))).mono ?_
  rintro e w4 ⟨⟨c4, A4, n4, rfl, hk4, he4, hn4⟩, hc4⟩
  have HC4 : Hid (Chg No w w4) := Chg.trans (by (repeat (first | (with_reducible exact Chg.refl _ _) | (with_reducible assumption) | (with_reducible refine Chg.drewN ?_ _) | (with_reducible refine Chg.drew ?_) | (with_reducible refine Chg.alloc ?_ _) | (with_reducible refine Chg.setCell ?_ (by first | (left; simp [DevH.foot]; done) | (right; simp; done) | (right; simp; omega)) _)))) hc4
  have HZ4 := Lib.hid (HZ.out.chg hc4 (fun h => h))
  have HB := fun W => Lib.hid (fun hc : Chg No w4 W => bshort_calls c4 (hk4.chgNo hc) (by rw [he4]; exact HT.out) cp0)
  clear hk4 hc4 he4 HS HZ
  go_wp2_with fail
  refine ((HB _).out (by (repeat (first | (with_reducible exact Chg.refl _ _) | (with_reducible assumption) | (with_reducible refine Chg.drewN ?_ _) | (with_reducible refine Chg.drew ?_) | (with_reducible refine Chg.alloc ?_ _) | (with_reducible refine Chg.setCell ?_ (by first | (left; simp [DevH.foot]; done) | (right; simp; done) | (right; simp; omega)) _))))).mono ?_
  rintro e w6 ⟨⟨c9, A9, n9, cp9, rfl, hk9, he9⟩, hc6⟩
  have HC6 : Hid (Chg No w w6) := HC4.out.trans (Chg.trans (by (repeat (first | (with_reducible exact Chg.refl _ _) | (with_reducible assumption) | (with_reducible refine Chg.drewN ?_ _) | (with_reducible refine Chg.drew ?_) | (with_reducible refine Chg.alloc ?_ _) | (with_reducible refine Chg.setCell ?_ (by first | (left; simp [DevH.foot]; done) | (right; simp; done) | (right; simp; omega)) _)))) hc6)
  have HZ6 := Lib.hid (HZ4.out.chg (Chg.trans (by (repeat (first | (with_reducible exact Chg.refl _ _) | (with_reducible assumption) | (with_reducible refine Chg.drewN ?_ _) | (with_reducible refine Chg.drew ?_) | (with_reducible refine Chg.alloc ?_ _) | (with_reducible refine Chg.setCell ?_ (by first | (left; simp [DevH.foot]; done) | (right; simp; done) | (right; simp; omega)) _)))) hc6) (fun h => h))
  have HK9 := Lib.hid (And.intro hk9 he9)
  clear hk9 hc6 he9 HB HZ4
  have z0 := HZ6.out.cell 0
  have z1 := HZ6.out.cell 1
  have z2 := HZ6.out.cell 2
  have z3 := HZ6.out.cell 3
  have z4 := HZ6.out.cell 4
  have z5 := HZ6.out.cell 5
  have z6 := HZ6.out.cell 6
  have z7 := HZ6.out.cell 7
  have z8 := HZ6.out.cell 8
  have z9 := HZ6.out.cell 9
  have z10 := HZ6.out.cell 10
  have z11 := HZ6.out.cell 11
  have f0 := HZ6.out.frozen 0
  have f1 := HZ6.out.frozen 1
  have f2 := HZ6.out.frozen 2
  have f3 := HZ6.out.frozen 3
  have f4 := HZ6.out.frozen 4
  have f5 := HZ6.out.frozen 5
  have f6 := HZ6.out.frozen 6
  have f7 := HZ6.out.frozen 7
  have f8 := HZ6.out.frozen 8
  have f9 := HZ6.out.frozen 9
  have f10 := HZ6.out.frozen 10
  have f11 := HZ6.out.frozen 11
  simp only [zcmd, List.getElem?_toArray, List.getElem?_cons_zero, List.getElem?_cons_succ] at z0 z1 z2 z3 z4 z5 z6 z7 z8 z9 z10 z11
  go_wp2_with fail
  have HSS := sets12 HZ6.out (.string c9.what) (.string c9.verb) (.slice A9 n9 cp9) (.string c9.data) (.int .u32 c9.flags.toNat) (.int .i64 c9.exp) (.int .u64 c9.cas.toNat) (.int .u64 c9.by_.toNat) (.bool c9.wc) (.bool c9.wt) (.bool c9.dn) (.bool c9.qt)
  have HR := HSS.1
  have hk9 := HK9.out.1.chg HSS.2 (fun g cur fz hg hgg => by
    have hb := HZ6.out
    unfold Blk at hb
    subst hgg
    rw [hb] at hg
    injection hg with hg
    injection hg with _ hg
    exact absurd hg (by decide))
  have hc9 := HC6.out.then HSS.2 (fun i hi hT => by omega)
  have y0 := HR.cell 0
  have y1 := HR.cell 1
  have y2 := HR.cell 2
  have y3 := HR.cell 3
  have y4 := HR.cell 4
  have y5 := HR.cell 5
  have y6 := HR.cell 6
  have y7 := HR.cell 7
  have y8 := HR.cell 8
  have y9 := HR.cell 9
  have y10 := HR.cell 10
  have y11 := HR.cell 11
  simp at y0 y1 y2 y3 y4 y5 y6 y7 y8 y9 y10 y11
  refine bodyPost_ret (v := .agg (cmdc c9 A9 n9 cp9)) (by simp [results, Tryd.results16, go_sem, cmdc, y0, y1, y2, y3, y4, y5, y6, y7, y8, y9, y10, y11]) rfl ⟨⟨c9, A9, n9, cp9, rfl, hk9, HK9.out.2⟩, hc9⟩
end Go.Proofs.YtedkoplgfidjlaaDoor
