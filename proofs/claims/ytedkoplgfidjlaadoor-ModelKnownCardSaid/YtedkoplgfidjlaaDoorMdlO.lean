/- The document's commands told as the program's: Back, walked. -/
import Derived.Test.YtedkoplgfidjlaaDoorMdlN
import Derived.Deep.RegionWith
namespace Go.Proofs.YtedkoplgfidjlaaDoor
open Go.RowKit
attribute [local go_sem ↓] Go.wp_at_zero Go.wp_at_succ
set_option linter.unusedSimpArgs false
set_option linter.unusedVariables false

abbrev zcmd : Array Value := #[.string ⟨#[]⟩, .string ⟨#[]⟩, .slice none 0 0, .string ⟨#[]⟩, .int .u32 0, .int .i64 0, .int .u64 0, .int .u64 0, .bool false, .bool false, .bool false, .bool false]
/-- a command of the program's -/
def CmdU (w : World) (e : Int) (u : Value) : Prop := ∃ c A n cp, u = .agg (cmdc c A n cp) ∧ KeysAt w A n c.ks ∧ (c.exp = e ∨ c.exp = 0)
theorem sets12 {w : World} {g : Nat} {t : TypeId} (h : Blk w g t zcmd) (u0 u1 u2 u3 u4 u5 u6 u7 u8 u9 u10 u11 : Value) :
    Blk ((((((((((((w.setCell ⟨g, 0, none⟩ u0).setCell ⟨g, 1, none⟩ u1).setCell ⟨g, 2, none⟩ u2).setCell ⟨g, 3, none⟩ u3).setCell ⟨g, 4, none⟩ u4).setCell ⟨g, 5, none⟩ u5).setCell ⟨g, 6, none⟩ u6).setCell ⟨g, 7, none⟩ u7).setCell ⟨g, 8, none⟩ u8).setCell ⟨g, 9, none⟩ u9).setCell ⟨g, 10, none⟩ u10).setCell ⟨g, 11, none⟩ u11) g t #[u0, u1, u2, u3, u4, u5, u6, u7, u8, u9, u10, u11] ∧ Chg (fun k => k = g) w ((((((((((((w.setCell ⟨g, 0, none⟩ u0).setCell ⟨g, 1, none⟩ u1).setCell ⟨g, 2, none⟩ u2).setCell ⟨g, 3, none⟩ u3).setCell ⟨g, 4, none⟩ u4).setCell ⟨g, 5, none⟩ u5).setCell ⟨g, 6, none⟩ u6).setCell ⟨g, 7, none⟩ u7).setCell ⟨g, 8, none⟩ u8).setCell ⟨g, 9, none⟩ u9).setCell ⟨g, 10, none⟩ u10).setCell ⟨g, 11, none⟩ u11) := by
  have h0 : Blk (w.setCell ⟨g, 0, none⟩ u0) g t #[u0, .string ⟨#[]⟩, .slice none 0 0, .string ⟨#[]⟩, .int .u32 0, .int .i64 0, .int .u64 0, .int .u64 0, .bool false, .bool false, .bool false, .bool false] := by have := h.set_ 0 u0; simpa [zcmd] using this
  have h1 : Blk ((w.setCell ⟨g, 0, none⟩ u0).setCell ⟨g, 1, none⟩ u1) g t #[u0, u1, .slice none 0 0, .string ⟨#[]⟩, .int .u32 0, .int .i64 0, .int .u64 0, .int .u64 0, .bool false, .bool false, .bool false, .bool false] := by have := h0.set_ 1 u1; simpa [zcmd] using this
  have h2 : Blk (((w.setCell ⟨g, 0, none⟩ u0).setCell ⟨g, 1, none⟩ u1).setCell ⟨g, 2, none⟩ u2) g t #[u0, u1, u2, .string ⟨#[]⟩, .int .u32 0, .int .i64 0, .int .u64 0, .int .u64 0, .bool false, .bool false, .bool false, .bool false] := by have := h1.set_ 2 u2; simpa [zcmd] using this
  have h3 : Blk ((((w.setCell ⟨g, 0, none⟩ u0).setCell ⟨g, 1, none⟩ u1).setCell ⟨g, 2, none⟩ u2).setCell ⟨g, 3, none⟩ u3) g t #[u0, u1, u2, u3, .int .u32 0, .int .i64 0, .int .u64 0, .int .u64 0, .bool false, .bool false, .bool false, .bool false] := by have := h2.set_ 3 u3; simpa [zcmd] using this
  have h4 : Blk (((((w.setCell ⟨g, 0, none⟩ u0).setCell ⟨g, 1, none⟩ u1).setCell ⟨g, 2, none⟩ u2).setCell ⟨g, 3, none⟩ u3).setCell ⟨g, 4, none⟩ u4) g t #[u0, u1, u2, u3, u4, .int .i64 0, .int .u64 0, .int .u64 0, .bool false, .bool false, .bool false, .bool false] := by have := h3.set_ 4 u4; simpa [zcmd] using this
  have h5 : Blk ((((((w.setCell ⟨g, 0, none⟩ u0).setCell ⟨g, 1, none⟩ u1).setCell ⟨g, 2, none⟩ u2).setCell ⟨g, 3, none⟩ u3).setCell ⟨g, 4, none⟩ u4).setCell ⟨g, 5, none⟩ u5) g t #[u0, u1, u2, u3, u4, u5, .int .u64 0, .int .u64 0, .bool false, .bool false, .bool false, .bool false] := by have := h4.set_ 5 u5; simpa [zcmd] using this
  have h6 : Blk (((((((w.setCell ⟨g, 0, none⟩ u0).setCell ⟨g, 1, none⟩ u1).setCell ⟨g, 2, none⟩ u2).setCell ⟨g, 3, none⟩ u3).setCell ⟨g, 4, none⟩ u4).setCell ⟨g, 5, none⟩ u5).setCell ⟨g, 6, none⟩ u6) g t #[u0, u1, u2, u3, u4, u5, u6, .int .u64 0, .bool false, .bool false, .bool false, .bool false] := by have := h5.set_ 6 u6; simpa [zcmd] using this
  have h7 : Blk ((((((((w.setCell ⟨g, 0, none⟩ u0).setCell ⟨g, 1, none⟩ u1).setCell ⟨g, 2, none⟩ u2).setCell ⟨g, 3, none⟩ u3).setCell ⟨g, 4, none⟩ u4).setCell ⟨g, 5, none⟩ u5).setCell ⟨g, 6, none⟩ u6).setCell ⟨g, 7, none⟩ u7) g t #[u0, u1, u2, u3, u4, u5, u6, u7, .bool false, .bool false, .bool false, .bool false] := by have := h6.set_ 7 u7; simpa [zcmd] using this
  have h8 : Blk (((((((((w.setCell ⟨g, 0, none⟩ u0).setCell ⟨g, 1, none⟩ u1).setCell ⟨g, 2, none⟩ u2).setCell ⟨g, 3, none⟩ u3).setCell ⟨g, 4, none⟩ u4).setCell ⟨g, 5, none⟩ u5).setCell ⟨g, 6, none⟩ u6).setCell ⟨g, 7, none⟩ u7).setCell ⟨g, 8, none⟩ u8) g t #[u0, u1, u2, u3, u4, u5, u6, u7, u8, .bool false, .bool false, .bool false] := by have := h7.set_ 8 u8; simpa [zcmd] using this
  have h9 : Blk ((((((((((w.setCell ⟨g, 0, none⟩ u0).setCell ⟨g, 1, none⟩ u1).setCell ⟨g, 2, none⟩ u2).setCell ⟨g, 3, none⟩ u3).setCell ⟨g, 4, none⟩ u4).setCell ⟨g, 5, none⟩ u5).setCell ⟨g, 6, none⟩ u6).setCell ⟨g, 7, none⟩ u7).setCell ⟨g, 8, none⟩ u8).setCell ⟨g, 9, none⟩ u9) g t #[u0, u1, u2, u3, u4, u5, u6, u7, u8, u9, .bool false, .bool false] := by have := h8.set_ 9 u9; simpa [zcmd] using this
  have h10 : Blk (((((((((((w.setCell ⟨g, 0, none⟩ u0).setCell ⟨g, 1, none⟩ u1).setCell ⟨g, 2, none⟩ u2).setCell ⟨g, 3, none⟩ u3).setCell ⟨g, 4, none⟩ u4).setCell ⟨g, 5, none⟩ u5).setCell ⟨g, 6, none⟩ u6).setCell ⟨g, 7, none⟩ u7).setCell ⟨g, 8, none⟩ u8).setCell ⟨g, 9, none⟩ u9).setCell ⟨g, 10, none⟩ u10) g t #[u0, u1, u2, u3, u4, u5, u6, u7, u8, u9, u10, .bool false] := by have := h9.set_ 10 u10; simpa [zcmd] using this
  have h11 : Blk ((((((((((((w.setCell ⟨g, 0, none⟩ u0).setCell ⟨g, 1, none⟩ u1).setCell ⟨g, 2, none⟩ u2).setCell ⟨g, 3, none⟩ u3).setCell ⟨g, 4, none⟩ u4).setCell ⟨g, 5, none⟩ u5).setCell ⟨g, 6, none⟩ u6).setCell ⟨g, 7, none⟩ u7).setCell ⟨g, 8, none⟩ u8).setCell ⟨g, 9, none⟩ u9).setCell ⟨g, 10, none⟩ u10).setCell ⟨g, 11, none⟩ u11) g t #[u0, u1, u2, u3, u4, u5, u6, u7, u8, u9, u10, u11] := by have := h10.set_ 11 u11; simpa [zcmd] using this
  exact ⟨h11, (((((((((((((Chg.refl (fun k => k = g) w).setCell (p := ⟨g, 0, none⟩) (.inl rfl) u0).setCell (p := ⟨g, 1, none⟩) (.inl rfl) u1).setCell (p := ⟨g, 2, none⟩) (.inl rfl) u2).setCell (p := ⟨g, 3, none⟩) (.inl rfl) u3).setCell (p := ⟨g, 4, none⟩) (.inl rfl) u4).setCell (p := ⟨g, 5, none⟩) (.inl rfl) u5).setCell (p := ⟨g, 6, none⟩) (.inl rfl) u6).setCell (p := ⟨g, 7, none⟩) (.inl rfl) u7).setCell (p := ⟨g, 8, none⟩) (.inl rfl) u8).setCell (p := ⟨g, 9, none⟩) (.inl rfl) u9).setCell (p := ⟨g, 10, none⟩) (.inl rfl) u10).setCell (p := ⟨g, 11, none⟩) (.inl rfl) u11)⟩
theorem keysAt_nil (w : World) : KeysAt w none 0 [] := ⟨Rd.nil _ _ _, rfl, by decide⟩
theorem keysAt_key (w : World) (k : ByteArray) : KeysAt (w.alloc (.cells #[.string k] tStr)).drew (some ⟨w.heap.size, 0, none⟩) 1 [k] := ⟨(rd_one w tStr (.string k)).drew, rfl, by decide⟩
set_option maxRecDepth 100000 in
set_option maxHeartbeats 8000000 in
theorem back_calls {w : World} (c : CmdP) {t : TypeId} {A : Option Addr} {n : Nat} (h : KeysT w t A n c.ks) (cp : Nat) :
    Calls Tryd.prog 11 #[.agg (cmdc c A n cp)] w fun e w' => (∃ u, e = .returned u ∧ CmdU w' c.exp u) ∧ Chg No w w' := by
  have HB := Lib.hid (Blk.new w tDC (cmdc c A n cp))
  have HZ := Lib.hid (Blk.new (w.alloc (.cells (cmdc c A n cp) tDC)) tCmd zcmd)
  have HK := fun W => Lib.hid (fun hc : Chg No w W => dkey_calls c (h.chgNo hc) cp)
  have HKS := Lib.hid h
  obtain ⟨fk, hfk⟩ : ∃ fk, fk = fstKey c.ks := ⟨_, rfl⟩
  simp only [← hfk] at HK ⊢
  clear hfk h
  obtain ⟨what, verb, ks, data, flags, exp, cas, by_, wc, wt, dn, qt⟩ := c
  simp only [cmdc] at HB HK HZ HKS ⊢
  by_cases q0 : what = kGet
  · obtain rfl : what = ⟨#[103, 101, 116]⟩ := q0
    have HB2 := Lib.hid (HB.out.alloc (.cells zcmd tCmd))
    obtain ⟨w2, hw2⟩ : ∃ w2, w2 = (w.alloc (.cells #[.string ⟨#[103, 101, 116]⟩, .string verb, .slice A n cp, .string data, .int .u32 flags.toNat, .int .i64 exp, .int .u64 cas.toNat, .int .u64 by_.toNat, .bool wc, .bool wt, .bool dn, .bool qt] tDC)).alloc (.cells zcmd tCmd) := ⟨_, rfl⟩
    have hs2 : w2.heap.size = w.heap.size + 1 + 1 := by rw [hw2]; simp
    have HC2 : Hid (Chg No w w2) := by show Chg _ _ _; rw [hw2]; (repeat (first | (with_reducible exact Chg.refl _ _) | (with_reducible assumption) | (with_reducible refine Chg.drewN ?_ _) | (with_reducible refine Chg.drew ?_) | (with_reducible refine Chg.alloc ?_ _) | (with_reducible refine Chg.setCell ?_ (by first | (left; simp [DevH.foot]; done) | (right; simp; done) | (right; simp; omega)) _)))
    rw [← hw2, World.size_alloc] at HZ
    rw [← hw2] at HB2
    have HE := Lib.hid (own_empty w2 tStr 1)
    rw [hs2] at HE
    have HKN := Lib.hid (HKS.out.2)
    have HKR := Lib.hid (show Rd w2 t A (n * 1) (ks.map .string) from by rw [Nat.mul_one]; exact (HKS.out.chgNo HC2.out).1)
    have hkn : n ≤ 8796093022208 := by have := HKN.out.2; omega
    have h63 : 0 + n ≤ maxLen := by simp only [maxLen]; omega
    have hby : (0 + n) * 16 ≤ 140737488355328 := by omega
    clear HK HB
    go_enter Tryd.func11, Tryd.ntmps11
    go_wp2_with fail
    rw [show ((w.alloc (.cells #[.string ⟨#[103, 101, 116]⟩, .string verb, .slice A n cp, .string data, .int .u32 flags.toNat, .int .i64 exp, .int .u64 cas.toNat, .int .u64 by_.toNat, .bool wc, .bool wt, .bool dn, .bool qt] 38)).alloc (.cells zcmd 31)) = w2 from hw2.symm]
    clear hw2
    have b0 := HB2.out.cell 0
    have b1 := HB2.out.cell 1
    have b2 := HB2.out.cell 2
    have b3 := HB2.out.cell 3
    have b4 := HB2.out.cell 4
    have b5 := HB2.out.cell 5
    have b6 := HB2.out.cell 6
    have b7 := HB2.out.cell 7
    have b8 := HB2.out.cell 8
    have b9 := HB2.out.cell 9
    have b10 := HB2.out.cell 10
    have b11 := HB2.out.cell 11
    simp only [List.getElem?_toArray, List.getElem?_cons_zero, List.getElem?_cons_succ] at b0 b1 b2 b3 b4 b5 b6 b7 b8 b9 b10 b11
    have hbl : w.heap.size < w2.heap.size := by omega
    go_region_held3 (fun W => W.cell? ⟨w.heap.size, 0, none⟩ = some (.string ⟨#[103, 101, 116]⟩) ∧ W.cell? ⟨w.heap.size, 1, none⟩ = some (.string verb) ∧ W.cell? ⟨w.heap.size, 2, none⟩ = some (.slice A n cp) ∧ W.cell? ⟨w.heap.size, 3, none⟩ = some (.string data) ∧ W.cell? ⟨w.heap.size, 4, none⟩ = some (.int .u32 flags.toNat) ∧ W.cell? ⟨w.heap.size, 5, none⟩ = some (.int .i64 exp) ∧ W.cell? ⟨w.heap.size, 6, none⟩ = some (.int .u64 cas.toNat) ∧ W.cell? ⟨w.heap.size, 7, none⟩ = some (.int .u64 by_.toNat) ∧ W.cell? ⟨w.heap.size, 8, none⟩ = some (.bool wc) ∧ W.cell? ⟨w.heap.size, 9, none⟩ = some (.bool wt) ∧ W.cell? ⟨w.heap.size, 10, none⟩ = some (.bool dn) ∧ W.cell? ⟨w.heap.size, 11, none⟩ = some (.bool qt)) (first | go_keep)
      ((go_loud (have e1 : Rd (w2.alloc (.cells #[] tStr)).drew t A (n * 1) (ks.map .string) := (HKR.out.alloc _).drew)
        go_loud (have e2 : (w2.alloc (.cells #[] tStr)).drew.ownsRow (w.heap.size + 1 + 1) tStr 1 (.slice (some ⟨w.heap.size + 1 + 1, 0, none⟩) 0 0) 0 [] := HE.out)
        go_loud (have e3 : w.heap.size + 1 + 1 ≤ (w2.alloc (.cells #[] tStr)).drew.heap.size := by (simp; omega))
        go_loud (refine step_app _ (by rfl) (.tmp 7) (.tmp 9) tStrs (by rfl) tStr Tryd.underlying27 ti_str rfl Nat.one_pos (w.heap.size + 1 + 1) _ 0 [] (by rfl) e2 t A n cp _ (by rfl) e1 (str_one_cell ks) h63 hby e3 ?_)
        intro v6 w6 ho6 hg6 hb6
        go_loud (have HC6 : Hid (Chg No w2 w6) := (((Chg.refl No w2).alloc _).drew).grown hg6 (fun k' hk' => .inr (by have := own_new e2 k' hk'; omega)))
        go_loud (have HB6 := Lib.hid (HB2.out.chg HC6.out (fun h => h)))
        go_loud (have HZ6 := Lib.hid (HZ.out.chg HC6.out (fun h => h)))
        obtain ⟨A6, c6, rfl, hnc6, hr6⟩ := own_slice ho6
        have HO6 := Lib.hid hr6
        clear ho6 hg6 hb6 e1 e2 e3 hr6 hnc6
        have k0 := HB6.out.cell 0
        have k1 := HB6.out.cell 1
        have k2 := HB6.out.cell 2
        have k3 := HB6.out.cell 3
        have k4 := HB6.out.cell 4
        have k5 := HB6.out.cell 5
        have k6 := HB6.out.cell 6
        have k7 := HB6.out.cell 7
        have k8 := HB6.out.cell 8
        have k9 := HB6.out.cell 9
        have k10 := HB6.out.cell 10
        have k11 := HB6.out.cell 11
        have z0 := HZ6.out.cell 0
        have z1 := HZ6.out.cell 1
        have z2 := HZ6.out.cell 2
        have z3 := HZ6.out.cell 3
        have z4 := HZ6.out.cell 4
        have z5 := HZ6.out.cell 5
        have z6 := HZ6.out.cell 6
        have z7 := HZ6.out.cell 7
        have z8 := HZ6.out.cell 8
        have z9 := HZ6.out.cell 9
        have z10 := HZ6.out.cell 10
        have z11 := HZ6.out.cell 11
        have f0 := HZ6.out.frozen 0
        have f1 := HZ6.out.frozen 1
        have f2 := HZ6.out.frozen 2
        have f3 := HZ6.out.frozen 3
        have f4 := HZ6.out.frozen 4
        have f5 := HZ6.out.frozen 5
        have f6 := HZ6.out.frozen 6
        have f7 := HZ6.out.frozen 7
        have f8 := HZ6.out.frozen 8
        have f9 := HZ6.out.frozen 9
        have f10 := HZ6.out.frozen 10
        have f11 := HZ6.out.frozen 11
        simp only [List.getElem?_toArray, List.getElem?_cons_zero, List.getElem?_cons_succ] at k0 z0 k1 z1 k2 z2 k3 z3 k4 z4 k5 z5 k6 z6 k7 z7 k8 z8 k9 z9 k10 z10 k11 z11
        skip))
    go_wp2_with fail
    have HSS := sets12 HZ6.out (.string ⟨#[103, 101, 116]⟩) (.string ⟨#[]⟩) (.slice A6 n c6) (.string ⟨#[]⟩) (.int .u32 0) (.int .i64 exp) (.int .u64 0) (.int .u64 0) (.bool wc) (.bool wt) (.bool false) (.bool false)
    have HR := HSS.1
    have hkk : KeysAt w6 A6 n ks := ⟨by have := HO6.out; rw [Nat.zero_add, Nat.mul_one] at this; exact this, HKN.out⟩
    have hk9 := hkk.chg HSS.2 (fun g cur fz hg hgg => by
      have hb := HZ6.out
      unfold Blk at hb
      subst hgg
      rw [hb] at hg
      injection hg with hg
      injection hg with _ hg
      exact absurd hg (by decide))
    have hc9 := (HC2.out.trans HC6.out).then HSS.2 (fun i hi hT => by omega)
    have z0 := HR.cell 0
    have z1 := HR.cell 1
    have z2 := HR.cell 2
    have z3 := HR.cell 3
    have z4 := HR.cell 4
    have z5 := HR.cell 5
    have z6 := HR.cell 6
    have z7 := HR.cell 7
    have z8 := HR.cell 8
    have z9 := HR.cell 9
    have z10 := HR.cell 10
    have z11 := HR.cell 11
    simp [cmdc] at z0 z1 z2 z3 z4 z5 z6 z7 z8 z9 z10 z11
    refine bodyPost_ret (v := .agg (cmdc ⟨⟨#[103, 101, 116]⟩, ⟨#[]⟩, ks, ⟨#[]⟩, 0, exp, 0, 0, wc, wt, false, false⟩ A6 n c6)) (by simp [results, Tryd.results11, go_sem, cmdc, z0, z1, z2, z3, z4, z5, z6, z7, z8, z9, z10, z11]) rfl ⟨⟨_, rfl, ⟨⟨#[103, 101, 116]⟩, ⟨#[]⟩, ks, ⟨#[]⟩, 0, exp, 0, 0, wc, wt, false, false⟩, A6, n, c6, rfl, hk9, (.inl rfl)⟩, by (exact hc9)⟩
  have s0 := str_ne what _ q0
  by_cases q1 : what = kStore
  · obtain rfl : what = ⟨#[115, 116, 111, 114, 101]⟩ := q1
    clear q0 s0
    go_enter Tryd.func11, Tryd.ntmps11
    go_wp2_with fail
    go_region_held3 (fun W => W.cell? ⟨w.heap.size, 0, none⟩ = some (.string ⟨#[115, 116, 111, 114, 101]⟩) ∧ W.cell? ⟨w.heap.size, 1, none⟩ = some (.string verb) ∧ W.cell? ⟨w.heap.size, 2, none⟩ = some (.slice A n cp) ∧ W.cell? ⟨w.heap.size, 3, none⟩ = some (.string data) ∧ W.cell? ⟨w.heap.size, 4, none⟩ = some (.int .u32 flags.toNat) ∧ W.cell? ⟨w.heap.size, 5, none⟩ = some (.int .i64 exp) ∧ W.cell? ⟨w.heap.size, 6, none⟩ = some (.int .u64 cas.toNat) ∧ W.cell? ⟨w.heap.size, 7, none⟩ = some (.int .u64 by_.toNat) ∧ W.cell? ⟨w.heap.size, 8, none⟩ = some (.bool wc) ∧ W.cell? ⟨w.heap.size, 9, none⟩ = some (.bool wt) ∧ W.cell? ⟨w.heap.size, 10, none⟩ = some (.bool dn) ∧ W.cell? ⟨w.heap.size, 11, none⟩ = some (.bool qt)) (first | go_keep)
      ((go_at_call 29
        refine ((HK _).out (by (repeat (first | (with_reducible exact Chg.refl _ _) | (with_reducible assumption) | (with_reducible refine Chg.drewN ?_ _) | (with_reducible refine Chg.drew ?_) | (with_reducible refine Chg.alloc ?_ _) | (with_reducible refine Chg.setCell ?_ (by first | (left; simp [DevH.foot]; done) | (right; simp; done) | (right; simp; omega)) _))))).mono ?_
        rintro e w4 ⟨rfl, rfl⟩
        skip))
    all_goals
      go_wp2_with fail
      have HR := (((Blk.new (w.alloc (.cells (cmdc ⟨⟨#[115, 116, 111, 114, 101]⟩, verb, ks, data, flags, exp, cas, by_, wc, wt, dn, qt⟩ A n cp) tDC)) tCmd (cmdc ⟨⟨#[115, 116, 111, 114, 101]⟩, verb, [fk], data, flags, exp, cas, 0, false, false, false, qt⟩ (some ⟨w.heap.size + 1 + 1 + 1, 0, none⟩) 1 1)).alloc (.cells (cmdc ⟨⟨#[115, 116, 111, 114, 101]⟩, verb, ks, data, flags, exp, cas, by_, wc, wt, dn, qt⟩ A n cp) tDC)).alloc (.cells #[.string fk] tStr)).drew
      have hk1 := keysAt_key ((((w.alloc (.cells (cmdc ⟨⟨#[115, 116, 111, 114, 101]⟩, verb, ks, data, flags, exp, cas, by_, wc, wt, dn, qt⟩ A n cp) tDC)).alloc (.cells (cmdc ⟨⟨#[115, 116, 111, 114, 101]⟩, verb, [fk], data, flags, exp, cas, 0, false, false, false, qt⟩ (some ⟨w.heap.size + 1 + 1 + 1, 0, none⟩) 1 1) tCmd)).alloc (.cells (cmdc ⟨⟨#[115, 116, 111, 114, 101]⟩, verb, ks, data, flags, exp, cas, by_, wc, wt, dn, qt⟩ A n cp) tDC))) fk
      simp only [World.size_alloc, cmdc] at hk1
      have z0 := HR.cell 0
      have z1 := HR.cell 1
      have z2 := HR.cell 2
      have z3 := HR.cell 3
      have z4 := HR.cell 4
      have z5 := HR.cell 5
      have z6 := HR.cell 6
      have z7 := HR.cell 7
      have z8 := HR.cell 8
      have z9 := HR.cell 9
      have z10 := HR.cell 10
      have z11 := HR.cell 11
      simp [cmdc] at z0 z1 z2 z3 z4 z5 z6 z7 z8 z9 z10 z11
      refine bodyPost_ret (v := .agg (cmdc ⟨⟨#[115, 116, 111, 114, 101]⟩, verb, [fk], data, flags, exp, cas, 0, false, false, false, qt⟩ (some ⟨w.heap.size + 1 + 1 + 1, 0, none⟩) 1 1)) (by simp [results, Tryd.results11, go_sem, cmdc, z0, z1, z2, z3, z4, z5, z6, z7, z8, z9, z10, z11]) rfl ⟨⟨_, rfl, ⟨⟨#[115, 116, 111, 114, 101]⟩, verb, [fk], data, flags, exp, cas, 0, false, false, false, qt⟩, (some ⟨w.heap.size + 1 + 1 + 1, 0, none⟩), 1, 1, rfl, hk1, (.inl rfl)⟩, by (repeat (first | (with_reducible exact Chg.refl _ _) | (with_reducible assumption) | (with_reducible refine Chg.drewN ?_ _) | (with_reducible refine Chg.drew ?_) | (with_reducible refine Chg.alloc ?_ _) | (with_reducible refine Chg.setCell ?_ (by first | (left; simp [DevH.foot]; done) | (right; simp; done) | (right; simp; omega)) _)))⟩
  have s1 := str_ne what _ q1
  by_cases q2 : what = kArith
  · obtain rfl : what = ⟨#[97, 114, 105, 116, 104]⟩ := q2
    clear q0 s0 q1 s1
    go_enter Tryd.func11, Tryd.ntmps11
    go_wp2_with fail
    go_region_held3 (fun W => W.cell? ⟨w.heap.size, 0, none⟩ = some (.string ⟨#[97, 114, 105, 116, 104]⟩) ∧ W.cell? ⟨w.heap.size, 1, none⟩ = some (.string verb) ∧ W.cell? ⟨w.heap.size, 2, none⟩ = some (.slice A n cp) ∧ W.cell? ⟨w.heap.size, 3, none⟩ = some (.string data) ∧ W.cell? ⟨w.heap.size, 4, none⟩ = some (.int .u32 flags.toNat) ∧ W.cell? ⟨w.heap.size, 5, none⟩ = some (.int .i64 exp) ∧ W.cell? ⟨w.heap.size, 6, none⟩ = some (.int .u64 cas.toNat) ∧ W.cell? ⟨w.heap.size, 7, none⟩ = some (.int .u64 by_.toNat) ∧ W.cell? ⟨w.heap.size, 8, none⟩ = some (.bool wc) ∧ W.cell? ⟨w.heap.size, 9, none⟩ = some (.bool wt) ∧ W.cell? ⟨w.heap.size, 10, none⟩ = some (.bool dn) ∧ W.cell? ⟨w.heap.size, 11, none⟩ = some (.bool qt)) (first | go_keep)
      ((go_at_call 29
        refine ((HK _).out (by (repeat (first | (with_reducible exact Chg.refl _ _) | (with_reducible assumption) | (with_reducible refine Chg.drewN ?_ _) | (with_reducible refine Chg.drew ?_) | (with_reducible refine Chg.alloc ?_ _) | (with_reducible refine Chg.setCell ?_ (by first | (left; simp [DevH.foot]; done) | (right; simp; done) | (right; simp; omega)) _))))).mono ?_
        rintro e w4 ⟨rfl, rfl⟩
        skip))
    all_goals
      go_wp2_with fail
      have HR := (((Blk.new (w.alloc (.cells (cmdc ⟨⟨#[97, 114, 105, 116, 104]⟩, verb, ks, data, flags, exp, cas, by_, wc, wt, dn, qt⟩ A n cp) tDC)) tCmd (cmdc ⟨⟨#[97, 114, 105, 116, 104]⟩, ⟨#[]⟩, [fk], ⟨#[]⟩, 0, 0, 0, by_, false, false, dn, qt⟩ (some ⟨w.heap.size + 1 + 1 + 1, 0, none⟩) 1 1)).alloc (.cells (cmdc ⟨⟨#[97, 114, 105, 116, 104]⟩, verb, ks, data, flags, exp, cas, by_, wc, wt, dn, qt⟩ A n cp) tDC)).alloc (.cells #[.string fk] tStr)).drew
      have hk1 := keysAt_key ((((w.alloc (.cells (cmdc ⟨⟨#[97, 114, 105, 116, 104]⟩, verb, ks, data, flags, exp, cas, by_, wc, wt, dn, qt⟩ A n cp) tDC)).alloc (.cells (cmdc ⟨⟨#[97, 114, 105, 116, 104]⟩, ⟨#[]⟩, [fk], ⟨#[]⟩, 0, 0, 0, by_, false, false, dn, qt⟩ (some ⟨w.heap.size + 1 + 1 + 1, 0, none⟩) 1 1) tCmd)).alloc (.cells (cmdc ⟨⟨#[97, 114, 105, 116, 104]⟩, verb, ks, data, flags, exp, cas, by_, wc, wt, dn, qt⟩ A n cp) tDC))) fk
      simp only [World.size_alloc, cmdc] at hk1
      have z0 := HR.cell 0
      have z1 := HR.cell 1
      have z2 := HR.cell 2
      have z3 := HR.cell 3
      have z4 := HR.cell 4
      have z5 := HR.cell 5
      have z6 := HR.cell 6
      have z7 := HR.cell 7
      have z8 := HR.cell 8
      have z9 := HR.cell 9
      have z10 := HR.cell 10
      have z11 := HR.cell 11
      simp [cmdc] at z0 z1 z2 z3 z4 z5 z6 z7 z8 z9 z10 z11
      refine bodyPost_ret (v := .agg (cmdc ⟨⟨#[97, 114, 105, 116, 104]⟩, ⟨#[]⟩, [fk], ⟨#[]⟩, 0, 0, 0, by_, false, false, dn, qt⟩ (some ⟨w.heap.size + 1 + 1 + 1, 0, none⟩) 1 1)) (by simp [results, Tryd.results11, go_sem, cmdc, z0, z1, z2, z3, z4, z5, z6, z7, z8, z9, z10, z11]) rfl ⟨⟨_, rfl, ⟨⟨#[97, 114, 105, 116, 104]⟩, ⟨#[]⟩, [fk], ⟨#[]⟩, 0, 0, 0, by_, false, false, dn, qt⟩, (some ⟨w.heap.size + 1 + 1 + 1, 0, none⟩), 1, 1, rfl, hk1, (.inr rfl)⟩, by (repeat (first | (with_reducible exact Chg.refl _ _) | (with_reducible assumption) | (with_reducible refine Chg.drewN ?_ _) | (with_reducible refine Chg.drew ?_) | (with_reducible refine Chg.alloc ?_ _) | (with_reducible refine Chg.setCell ?_ (by first | (left; simp [DevH.foot]; done) | (right; simp; done) | (right; simp; omega)) _)))⟩
  have s2 := str_ne what _ q2
  by_cases q3 : what = kTouch
  · obtain rfl : what = ⟨#[116, 111, 117, 99, 104]⟩ := q3
    clear q0 s0 q1 s1 q2 s2
    go_enter Tryd.func11, Tryd.ntmps11
    go_wp2_with fail
    go_region_held3 (fun W => W.cell? ⟨w.heap.size, 0, none⟩ = some (.string ⟨#[116, 111, 117, 99, 104]⟩) ∧ W.cell? ⟨w.heap.size, 1, none⟩ = some (.string verb) ∧ W.cell? ⟨w.heap.size, 2, none⟩ = some (.slice A n cp) ∧ W.cell? ⟨w.heap.size, 3, none⟩ = some (.string data) ∧ W.cell? ⟨w.heap.size, 4, none⟩ = some (.int .u32 flags.toNat) ∧ W.cell? ⟨w.heap.size, 5, none⟩ = some (.int .i64 exp) ∧ W.cell? ⟨w.heap.size, 6, none⟩ = some (.int .u64 cas.toNat) ∧ W.cell? ⟨w.heap.size, 7, none⟩ = some (.int .u64 by_.toNat) ∧ W.cell? ⟨w.heap.size, 8, none⟩ = some (.bool wc) ∧ W.cell? ⟨w.heap.size, 9, none⟩ = some (.bool wt) ∧ W.cell? ⟨w.heap.size, 10, none⟩ = some (.bool dn) ∧ W.cell? ⟨w.heap.size, 11, none⟩ = some (.bool qt)) (first | go_keep)
      ((go_at_call 29
        refine ((HK _).out (by (repeat (first | (with_reducible exact Chg.refl _ _) | (with_reducible assumption) | (with_reducible refine Chg.drewN ?_ _) | (with_reducible refine Chg.drew ?_) | (with_reducible refine Chg.alloc ?_ _) | (with_reducible refine Chg.setCell ?_ (by first | (left; simp [DevH.foot]; done) | (right; simp; done) | (right; simp; omega)) _))))).mono ?_
        rintro e w4 ⟨rfl, rfl⟩
        skip))
    all_goals
      go_wp2_with fail
      have HR := (((Blk.new (w.alloc (.cells (cmdc ⟨⟨#[116, 111, 117, 99, 104]⟩, verb, ks, data, flags, exp, cas, by_, wc, wt, dn, qt⟩ A n cp) tDC)) tCmd (cmdc ⟨⟨#[116, 111, 117, 99, 104]⟩, ⟨#[]⟩, [fk], ⟨#[]⟩, 0, exp, 0, 0, false, false, false, qt⟩ (some ⟨w.heap.size + 1 + 1 + 1, 0, none⟩) 1 1)).alloc (.cells (cmdc ⟨⟨#[116, 111, 117, 99, 104]⟩, verb, ks, data, flags, exp, cas, by_, wc, wt, dn, qt⟩ A n cp) tDC)).alloc (.cells #[.string fk] tStr)).drew
      have hk1 := keysAt_key ((((w.alloc (.cells (cmdc ⟨⟨#[116, 111, 117, 99, 104]⟩, verb, ks, data, flags, exp, cas, by_, wc, wt, dn, qt⟩ A n cp) tDC)).alloc (.cells (cmdc ⟨⟨#[116, 111, 117, 99, 104]⟩, ⟨#[]⟩, [fk], ⟨#[]⟩, 0, exp, 0, 0, false, false, false, qt⟩ (some ⟨w.heap.size + 1 + 1 + 1, 0, none⟩) 1 1) tCmd)).alloc (.cells (cmdc ⟨⟨#[116, 111, 117, 99, 104]⟩, verb, ks, data, flags, exp, cas, by_, wc, wt, dn, qt⟩ A n cp) tDC))) fk
      simp only [World.size_alloc, cmdc] at hk1
      have z0 := HR.cell 0
      have z1 := HR.cell 1
      have z2 := HR.cell 2
      have z3 := HR.cell 3
      have z4 := HR.cell 4
      have z5 := HR.cell 5
      have z6 := HR.cell 6
      have z7 := HR.cell 7
      have z8 := HR.cell 8
      have z9 := HR.cell 9
      have z10 := HR.cell 10
      have z11 := HR.cell 11
      simp [cmdc] at z0 z1 z2 z3 z4 z5 z6 z7 z8 z9 z10 z11
      refine bodyPost_ret (v := .agg (cmdc ⟨⟨#[116, 111, 117, 99, 104]⟩, ⟨#[]⟩, [fk], ⟨#[]⟩, 0, exp, 0, 0, false, false, false, qt⟩ (some ⟨w.heap.size + 1 + 1 + 1, 0, none⟩) 1 1)) (by simp [results, Tryd.results11, go_sem, cmdc, z0, z1, z2, z3, z4, z5, z6, z7, z8, z9, z10, z11]) rfl ⟨⟨_, rfl, ⟨⟨#[116, 111, 117, 99, 104]⟩, ⟨#[]⟩, [fk], ⟨#[]⟩, 0, exp, 0, 0, false, false, false, qt⟩, (some ⟨w.heap.size + 1 + 1 + 1, 0, none⟩), 1, 1, rfl, hk1, (.inl rfl)⟩, by (repeat (first | (with_reducible exact Chg.refl _ _) | (with_reducible assumption) | (with_reducible refine Chg.drewN ?_ _) | (with_reducible refine Chg.drew ?_) | (with_reducible refine Chg.alloc ?_ _) | (with_reducible refine Chg.setCell ?_ (by first | (left; simp [DevH.foot]; done) | (right; simp; done) | (right; simp; omega)) _)))⟩
  have s3 := str_ne what _ q3
  by_cases q4 : what = kDelete
  · obtain rfl : what = ⟨#[100, 101, 108, 101, 116, 101]⟩ := q4
    clear q0 s0 q1 s1 q2 s2 q3 s3
    go_enter Tryd.func11, Tryd.ntmps11
    go_wp2_with fail
    go_region_held3 (fun W => W.cell? ⟨w.heap.size, 0, none⟩ = some (.string ⟨#[100, 101, 108, 101, 116, 101]⟩) ∧ W.cell? ⟨w.heap.size, 1, none⟩ = some (.string verb) ∧ W.cell? ⟨w.heap.size, 2, none⟩ = some (.slice A n cp) ∧ W.cell? ⟨w.heap.size, 3, none⟩ = some (.string data) ∧ W.cell? ⟨w.heap.size, 4, none⟩ = some (.int .u32 flags.toNat) ∧ W.cell? ⟨w.heap.size, 5, none⟩ = some (.int .i64 exp) ∧ W.cell? ⟨w.heap.size, 6, none⟩ = some (.int .u64 cas.toNat) ∧ W.cell? ⟨w.heap.size, 7, none⟩ = some (.int .u64 by_.toNat) ∧ W.cell? ⟨w.heap.size, 8, none⟩ = some (.bool wc) ∧ W.cell? ⟨w.heap.size, 9, none⟩ = some (.bool wt) ∧ W.cell? ⟨w.heap.size, 10, none⟩ = some (.bool dn) ∧ W.cell? ⟨w.heap.size, 11, none⟩ = some (.bool qt)) (first | go_keep)
      ((go_at_call 29
        refine ((HK _).out (by (repeat (first | (with_reducible exact Chg.refl _ _) | (with_reducible assumption) | (with_reducible refine Chg.drewN ?_ _) | (with_reducible refine Chg.drew ?_) | (with_reducible refine Chg.alloc ?_ _) | (with_reducible refine Chg.setCell ?_ (by first | (left; simp [DevH.foot]; done) | (right; simp; done) | (right; simp; omega)) _))))).mono ?_
        rintro e w4 ⟨rfl, rfl⟩
        skip))
    all_goals
      go_wp2_with fail
      have HR := (((Blk.new (w.alloc (.cells (cmdc ⟨⟨#[100, 101, 108, 101, 116, 101]⟩, verb, ks, data, flags, exp, cas, by_, wc, wt, dn, qt⟩ A n cp) tDC)) tCmd (cmdc ⟨⟨#[100, 101, 108, 101, 116, 101]⟩, ⟨#[]⟩, [fk], ⟨#[]⟩, 0, 0, 0, 0, false, false, false, qt⟩ (some ⟨w.heap.size + 1 + 1 + 1, 0, none⟩) 1 1)).alloc (.cells (cmdc ⟨⟨#[100, 101, 108, 101, 116, 101]⟩, verb, ks, data, flags, exp, cas, by_, wc, wt, dn, qt⟩ A n cp) tDC)).alloc (.cells #[.string fk] tStr)).drew
      have hk1 := keysAt_key ((((w.alloc (.cells (cmdc ⟨⟨#[100, 101, 108, 101, 116, 101]⟩, verb, ks, data, flags, exp, cas, by_, wc, wt, dn, qt⟩ A n cp) tDC)).alloc (.cells (cmdc ⟨⟨#[100, 101, 108, 101, 116, 101]⟩, ⟨#[]⟩, [fk], ⟨#[]⟩, 0, 0, 0, 0, false, false, false, qt⟩ (some ⟨w.heap.size + 1 + 1 + 1, 0, none⟩) 1 1) tCmd)).alloc (.cells (cmdc ⟨⟨#[100, 101, 108, 101, 116, 101]⟩, verb, ks, data, flags, exp, cas, by_, wc, wt, dn, qt⟩ A n cp) tDC))) fk
      simp only [World.size_alloc, cmdc] at hk1
      have z0 := HR.cell 0
      have z1 := HR.cell 1
      have z2 := HR.cell 2
      have z3 := HR.cell 3
      have z4 := HR.cell 4
      have z5 := HR.cell 5
      have z6 := HR.cell 6
      have z7 := HR.cell 7
      have z8 := HR.cell 8
      have z9 := HR.cell 9
      have z10 := HR.cell 10
      have z11 := HR.cell 11
      simp [cmdc] at z0 z1 z2 z3 z4 z5 z6 z7 z8 z9 z10 z11
      refine bodyPost_ret (v := .agg (cmdc ⟨⟨#[100, 101, 108, 101, 116, 101]⟩, ⟨#[]⟩, [fk], ⟨#[]⟩, 0, 0, 0, 0, false, false, false, qt⟩ (some ⟨w.heap.size + 1 + 1 + 1, 0, none⟩) 1 1)) (by simp [results, Tryd.results11, go_sem, cmdc, z0, z1, z2, z3, z4, z5, z6, z7, z8, z9, z10, z11]) rfl ⟨⟨_, rfl, ⟨⟨#[100, 101, 108, 101, 116, 101]⟩, ⟨#[]⟩, [fk], ⟨#[]⟩, 0, 0, 0, 0, false, false, false, qt⟩, (some ⟨w.heap.size + 1 + 1 + 1, 0, none⟩), 1, 1, rfl, hk1, (.inr rfl)⟩, by (repeat (first | (with_reducible exact Chg.refl _ _) | (with_reducible assumption) | (with_reducible refine Chg.drewN ?_ _) | (with_reducible refine Chg.drew ?_) | (with_reducible refine Chg.alloc ?_ _) | (with_reducible refine Chg.setCell ?_ (by first | (left; simp [DevH.foot]; done) | (right; simp; done) | (right; simp; omega)) _)))⟩
  have s4 := str_ne what _ q4
  clear HK HB
  by_cases q5 : what = kFlush
  · obtain rfl : what = ⟨#[102, 108, 117, 115, 104]⟩ := q5
    clear q0 s0 q1 s1 q2 s2 q3 s3 q4 s4
    go_enter Tryd.func11, Tryd.ntmps11
    go_wp2_with fail
    have HR := (Blk.new (w.alloc (.cells (cmdc ⟨⟨#[102, 108, 117, 115, 104]⟩, verb, ks, data, flags, exp, cas, by_, wc, wt, dn, qt⟩ A n cp) tDC)) tCmd (cmdc ⟨⟨#[102, 108, 117, 115, 104]⟩, ⟨#[]⟩, [], ⟨#[]⟩, 0, 0, 0, 0, false, false, false, qt⟩ none 0 0))
    have z0 := HR.cell 0
    have z1 := HR.cell 1
    have z2 := HR.cell 2
    have z3 := HR.cell 3
    have z4 := HR.cell 4
    have z5 := HR.cell 5
    have z6 := HR.cell 6
    have z7 := HR.cell 7
    have z8 := HR.cell 8
    have z9 := HR.cell 9
    have z10 := HR.cell 10
    have z11 := HR.cell 11
    simp [cmdc] at z0 z1 z2 z3 z4 z5 z6 z7 z8 z9 z10 z11
    refine bodyPost_ret (v := .agg (cmdc ⟨⟨#[102, 108, 117, 115, 104]⟩, ⟨#[]⟩, [], ⟨#[]⟩, 0, 0, 0, 0, false, false, false, qt⟩ none 0 0)) (by simp [results, Tryd.results11, go_sem, cmdc, z0, z1, z2, z3, z4, z5, z6, z7, z8, z9, z10, z11]) rfl ⟨⟨_, rfl, ⟨⟨#[102, 108, 117, 115, 104]⟩, ⟨#[]⟩, [], ⟨#[]⟩, 0, 0, 0, 0, false, false, false, qt⟩, none, 0, 0, rfl, (keysAt_nil _), (.inr rfl)⟩, by (repeat (first | (with_reducible exact Chg.refl _ _) | (with_reducible assumption) | (with_reducible refine Chg.drewN ?_ _) | (with_reducible refine Chg.drew ?_) | (with_reducible refine Chg.alloc ?_ _) | (with_reducible refine Chg.setCell ?_ (by first | (left; simp [DevH.foot]; done) | (right; simp; done) | (right; simp; omega)) _)))⟩
  have s5 := str_ne what _ q5
  by_cases q6 : what = kBad
  · obtain rfl : what = ⟨#[98, 97, 100]⟩ := q6
    clear q0 s0 q1 s1 q2 s2 q3 s3 q4 s4 q5 s5
    go_enter Tryd.func11, Tryd.ntmps11
    go_wp2_with fail
    have HR := (Blk.new (w.alloc (.cells (cmdc ⟨⟨#[98, 97, 100]⟩, verb, ks, data, flags, exp, cas, by_, wc, wt, dn, qt⟩ A n cp) tDC)) tCmd (cmdc ⟨⟨#[98, 97, 100]⟩, verb, [], ⟨#[]⟩, 0, 0, 0, 0, false, false, false, false⟩ none 0 0))
    have z0 := HR.cell 0
    have z1 := HR.cell 1
    have z2 := HR.cell 2
    have z3 := HR.cell 3
    have z4 := HR.cell 4
    have z5 := HR.cell 5
    have z6 := HR.cell 6
    have z7 := HR.cell 7
    have z8 := HR.cell 8
    have z9 := HR.cell 9
    have z10 := HR.cell 10
    have z11 := HR.cell 11
    simp [cmdc] at z0 z1 z2 z3 z4 z5 z6 z7 z8 z9 z10 z11
    refine bodyPost_ret (v := .agg (cmdc ⟨⟨#[98, 97, 100]⟩, verb, [], ⟨#[]⟩, 0, 0, 0, 0, false, false, false, false⟩ none 0 0)) (by simp [results, Tryd.results11, go_sem, cmdc, z0, z1, z2, z3, z4, z5, z6, z7, z8, z9, z10, z11]) rfl ⟨⟨_, rfl, ⟨⟨#[98, 97, 100]⟩, verb, [], ⟨#[]⟩, 0, 0, 0, 0, false, false, false, false⟩, none, 0, 0, rfl, (keysAt_nil _), (.inr rfl)⟩, by (repeat (first | (with_reducible exact Chg.refl _ _) | (with_reducible assumption) | (with_reducible refine Chg.drewN ?_ _) | (with_reducible refine Chg.drew ?_) | (with_reducible refine Chg.alloc ?_ _) | (with_reducible refine Chg.setCell ?_ (by first | (left; simp [DevH.foot]; done) | (right; simp; done) | (right; simp; omega)) _)))⟩
  have s6 := str_ne what _ q6
  by_cases q7 : what = kWord
  · obtain rfl : what = ⟨#[119, 111, 114, 100]⟩ := q7
    clear q0 s0 q1 s1 q2 s2 q3 s3 q4 s4 q5 s5 q6 s6
    go_enter Tryd.func11, Tryd.ntmps11
    go_wp2_with fail
    have HR := (Blk.new (w.alloc (.cells (cmdc ⟨⟨#[119, 111, 114, 100]⟩, verb, ks, data, flags, exp, cas, by_, wc, wt, dn, qt⟩ A n cp) tDC)) tCmd (cmdc ⟨⟨#[119, 111, 114, 100]⟩, verb, [], ⟨#[]⟩, 0, 0, 0, 0, false, false, false, false⟩ none 0 0))
    have z0 := HR.cell 0
    have z1 := HR.cell 1
    have z2 := HR.cell 2
    have z3 := HR.cell 3
    have z4 := HR.cell 4
    have z5 := HR.cell 5
    have z6 := HR.cell 6
    have z7 := HR.cell 7
    have z8 := HR.cell 8
    have z9 := HR.cell 9
    have z10 := HR.cell 10
    have z11 := HR.cell 11
    simp [cmdc] at z0 z1 z2 z3 z4 z5 z6 z7 z8 z9 z10 z11
    refine bodyPost_ret (v := .agg (cmdc ⟨⟨#[119, 111, 114, 100]⟩, verb, [], ⟨#[]⟩, 0, 0, 0, 0, false, false, false, false⟩ none 0 0)) (by simp [results, Tryd.results11, go_sem, cmdc, z0, z1, z2, z3, z4, z5, z6, z7, z8, z9, z10, z11]) rfl ⟨⟨_, rfl, ⟨⟨#[119, 111, 114, 100]⟩, verb, [], ⟨#[]⟩, 0, 0, 0, 0, false, false, false, false⟩, none, 0, 0, rfl, (keysAt_nil _), (.inr rfl)⟩, by (repeat (first | (with_reducible exact Chg.refl _ _) | (with_reducible assumption) | (with_reducible refine Chg.drewN ?_ _) | (with_reducible refine Chg.drew ?_) | (with_reducible refine Chg.alloc ?_ _) | (with_reducible refine Chg.setCell ?_ (by first | (left; simp [DevH.foot]; done) | (right; simp; done) | (right; simp; omega)) _)))⟩
  have s7 := str_ne what _ q7
  clear q0 q1 q2 q3 q4 q5 q6 q7
  go_enter Tryd.func11, Tryd.ntmps11
  go_wp2_with fail
  have HR := (Blk.new (w.alloc (.cells (cmdc ⟨what, verb, ks, data, flags, exp, cas, by_, wc, wt, dn, qt⟩ A n cp) tDC)) tCmd (cmdc ⟨⟨#[]⟩, ⟨#[]⟩, [], ⟨#[]⟩, 0, 0, 0, 0, false, false, false, false⟩ none 0 0))
  have z0 := HR.cell 0
  have z1 := HR.cell 1
  have z2 := HR.cell 2
  have z3 := HR.cell 3
  have z4 := HR.cell 4
  have z5 := HR.cell 5
  have z6 := HR.cell 6
  have z7 := HR.cell 7
  have z8 := HR.cell 8
  have z9 := HR.cell 9
  have z10 := HR.cell 10
  have z11 := HR.cell 11
  simp [cmdc] at z0 z1 z2 z3 z4 z5 z6 z7 z8 z9 z10 z11
  refine bodyPost_ret (v := .agg (cmdc ⟨⟨#[]⟩, ⟨#[]⟩, [], ⟨#[]⟩, 0, 0, 0, 0, false, false, false, false⟩ none 0 0)) (by simp [results, Tryd.results11, go_sem, cmdc, z0, z1, z2, z3, z4, z5, z6, z7, z8, z9, z10, z11]) rfl ⟨⟨_, rfl, ⟨⟨#[]⟩, ⟨#[]⟩, [], ⟨#[]⟩, 0, 0, 0, 0, false, false, false, false⟩, none, 0, 0, rfl, (keysAt_nil _), (.inr rfl)⟩, by (repeat (first | (with_reducible exact Chg.refl _ _) | (with_reducible assumption) | (with_reducible refine Chg.drewN ?_ _) | (with_reducible refine Chg.drew ?_) | (with_reducible refine Chg.alloc ?_ _) | (with_reducible refine Chg.setCell ?_ (by first | (left; simp [DevH.foot]; done) | (right; simp; done) | (right; simp; omega)) _)))⟩
end Go.Proofs.YtedkoplgfidjlaaDoor
