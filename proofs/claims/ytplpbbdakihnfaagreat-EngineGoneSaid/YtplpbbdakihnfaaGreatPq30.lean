/- Packed texts: EngWi, EngPj, EngGo, OpenS. -/
import Derived.Test.YtplpbbdakihnfaaGreatPq28
import Derived.Test.YtplpbbdakihnfaaGreatPq29
import Derived.Deep.Strs
set_option linter.unusedSimpArgs false
set_option linter.unusedVariables false
section
namespace Go.Proofs.YtplpbbdakihnfaaGreat
open Go.RowKit
attribute [local go_sem ↓] Go.wp_at_zero Go.wp_at_succ
theorem eng_new30 (w : World) : Calls Tryz.prog 13 #[.int .i64 30] w fun e w' => ∃ h : DevH, e = .returned (.tuple #[.pointer (some ⟨h.d, 0, none⟩), .int .i64 0]) ∧ DevAt w' h (Dev.new 30) ∧ Chg No w w' ∧ ∀ k, h.foot k → w.heap.size ≤ k := new_calls 30 w (by decide) (by decide)
def gLaw : Geo := ⟨3, 3, 2, 0⟩
section
variable {g : Geo} {Q : Item → Prop} {K : ByteArray → Prop} {c : Nat} {X : Eng} {D : Dev} {ls : List (List Item)}
theorem All.items_q (h : All g Q K c X D ls) {x : Item} (hx : x ∈ X.items D) : Q x ∧ X.counts x = true ∧ X.one D x.key = some x := by
  obtain ⟨h1, h2⟩ := List.mem_filter.1 hx
  unfold Eng.tells at h2
  simp only [Bool.and_eq_true, decide_eq_true_eq] at h2
  refine ⟨?_, h2.2, h2.1⟩
  unfold Eng.all at h1
  rcases List.mem_append.1 h1 with h1 | h1
  · rw [h.bks.bk.all.2] at h1
    obtain ⟨i, l, hi, hy⟩ := mem_flat.1 h1
    exact h.bks.q i l hi x hy
  · obtain ⟨p, hk, hit, _⟩ := items_mem h1
    have hv : X.G.view x.key = some x := by unfold Lg.view; rw [hk]; simp [hit]
    exact (h.lgs.view_q hv).1
theorem counts_hor {x : Item} (h : X.counts x = true) : X.blk.horizon < x.ver.toNat := by
  unfold Eng.counts at h
  simp only [Bool.and_eq_true, decide_eq_true_eq] at h
  exact h.1
end
set_option maxRecDepth 100000 in
set_option maxHeartbeats 8000000 in
theorem ewiped_calls (w : World) (A : Option Addr) (n cp : Nat) (xs : List Value) (l : List (Int × Item)) (te : TypeId) (hn : l.length = n) (hr : Rd w te A (n * 12) xs) (hxs : Calls10 xs l) (hsz : ∀ p ∈ l, p.2.key.size ≤ 140737488351232 ∧ p.2.val.size ≤ 140737488351232)
    (A2 : Option Addr) (n2 cp2 : Nat) (xs2 : List Value) (l2 : List (Int × Item)) (te2 : TypeId) (hn2 : l2.length = n2) (hr2 : Rd w te2 A2 (n2 * 12) xs2) (hxs2 : Calls10 xs2 l2) (hsz2 : ∀ p ∈ l2, p.2.key.size ≤ 140737488351232 ∧ p.2.val.size ≤ 140737488351232)
    (A3 : Option Addr) (n3 cp3 : Nat) (picks : List UInt8) (te3 : TypeId) (hn3 : picks.length = n3) (hr3 : Rd w te3 A3 n3 (bys picks)) :
    Calls Tryz.prog 7 #[.slice A n cp, .slice A2 n2 cp2, .slice A3 n3 cp3] w fun e w' => e = .returned (.bool true) ∧ Chg No w w' := by
  have HAW := Lib.hid (awake10_calls w)
  have HN0 := fun W => Lib.hid (eng_new30 W)
  have H1 := Lib.hid (And.intro hn (And.intro hr (And.intro hxs hsz)))
  have H2 := Lib.hid (And.intro hn2 (And.intro hr2 (And.intro hxs2 hsz2)))
  have H3 := Lib.hid (And.intro hn3 hr3)
  clear hn hr hxs hsz hn2 hr2 hxs2 hsz2 hn3 hr3
  by_cases hle : n ≤ 20 ∧ n2 ≤ 10
  rotate_left
  · by_cases h20 : 20 < n
    · have hb : decide ((20 : Int) < (n : Int)) = true := by simp; omega
      have hb2 : (20 : Int) < (n : Int) := by omega
      clear hle h20
      go_enter Tryz.func7, Tryz.ntmps7
      go_wp2_with fail
      refine HAW.out.mono ?_
      rintro e w1 ⟨rfl, hc1⟩
      have HC1 := Lib.hid hc1
      clear hc1
      go_wp2_with fail
      go_ret
      exact ⟨rfl, HC1.out⟩
    · have hb2 : ¬ (20 : Int) < (n : Int) := by omega
      have hb3 : (10 : Int) < (n2 : Int) := by omega
      clear hle h20
      go_enter Tryz.func7, Tryz.ntmps7
      go_wp2_with fail
      refine HAW.out.mono ?_
      rintro e w1 ⟨rfl, hc1⟩
      have HC1 := Lib.hid hc1
      clear hc1
      go_wp2_with fail
      go_ret
      exact ⟨rfl, HC1.out⟩
  obtain ⟨hl1, hl2⟩ := hle
  have hb2 : ¬ (20 : Int) < (n : Int) := by omega
  have hb3 : ¬ (10 : Int) < (n2 : Int) := by omega
  go_enter Tryz.func7, Tryz.ntmps7
  go_wp2_with fail
  refine HAW.out.mono ?_
  rintro e w1 ⟨rfl, hc1⟩
  have HC1 := Lib.hid hc1
  clear hc1 HAW
  go_wp2_with fail
  refine (HN0 _).out.mono ?_
  rintro e w2 ⟨h, rfl, hd2, hc2, hf2⟩
  have HD2 := Lib.hid hd2
  have HC2 := Lib.hid (HC1.out.trans hc2)
  have HF2 : Hid (∀ k, h.foot k → w.heap.size ≤ k) := fun k hk => Nat.le_trans HC1.out.size (hf2 k hk)
  clear hd2 hc2 hf2 HN0 HC1
  go_wp2_with fail
  have a3 : Chg No w2 (w2.alloc (.cells #[.int .i64 3, .int .i64 3, .int .i64 2, .int .i64 0] 34)) := (Chg.refl No w2).alloc _
  obtain ⟨n1, nn2, nn3, nn4, nn5⟩ := all_new 30 gLaw rfl (by decide) (fun _ => True)
  have HO := Lib.hid (Heng.opened (w0 := w) (h := h) ((DevN.chgNo HD2.out a3).at_) HF2.out (HC2.out.trans a3) (g := gLaw) rfl (by decide) rfl (by rw [n1]; decide) (by rw [n1]; decide) nn2 nn4)
  rw [n1, show gLaw.V = .agg #[.int .i64 3, .int .i64 3, .int .i64 2, .int .i64 0] from rfl] at HO
  have HB3 := Lib.hid (Blk.new w2 34 #[.int .i64 3, .int .i64 3, .int .i64 2, .int .i64 0])
  have HBF : Hid (¬ h.foot w2.heap.size) := fun hk => by have := foot_size HD2.out hk; omega
  obtain ⟨X0, hX0⟩ : ∃ X0, X0 = Eng.opened (Dev.new 30) gLaw := ⟨_, rfl⟩
  obtain ⟨D0, hD0⟩ : ∃ D0, D0 = (Dev.new 30).stD (Eng.now (Dev.new 30)) := ⟨_, rfl⟩
  rw [← hX0, ← hD0] at HO
  rw [← hX0] at nn3
  have HX0 := Lib.hid nn3
  obtain ⟨bg, hbg⟩ : ∃ bg, bg = w2.heap.size := ⟨_, rfl⟩
  rw [← hbg] at HB3 HBF ⊢
  have HBG := Lib.hid hbg
  clear a3 n1 nn2 nn3 nn4 nn5 hX0 hD0 hbg HD2 HC2
  refine HO.out.mono ?_
  rintro e w4 ⟨t, rfl, h4, hc4, hall⟩
  have L4 : Hid (Loc10 w4 h t bg 34 #[.int .i64 3, .int .i64 3, .int .i64 2, .int .i64 0]) := ⟨HB3.out.chg hc4 HBF.out, fun hk => (hall bg hk).elim HBF.out (fun h9 => by have := HBG.out; simp at h9; omega)⟩
  have H4 := Lib.hid h4
  clear h4 hc4 hall HO HB3
  rw [sbV_eq]
  go_wp2_with fail
  have a5 : Chg No w4 (w4.alloc (.cells #[.int .u64 Sb.zero.seq, .int .u64 Sb.zero.epoch, .int .u64 Sb.zero.reserved, .int .u64 Sb.zero.horizon, .int .u64 Sb.zero.gen, .bool Sb.zero.clean, .int .i64 Sb.zero.image] tSb)) := (Chg.refl No w4).alloc _
  have HP := Lib.hid (put10_calls (H4.out.chgNo a5) A n cp xs l te H1.out.1 H1.out.2.1 H1.out.2.2.1 (by omega) H1.out.2.2.2 (by omega) (fun y hy => hy.elim) (fun _ _ _ _ _ _ _ _ => True.intro) (fun _ _ _ _ _ => True.intro) 0)
  rw [show ((0 : Nat) : Int) = 0 from rfl] at HP
  have L5 := Lib.hid (L4.out.chgNo a5)
  clear a5 H4 L4
  refine HP.out.mono ?_
  rintro e w6 ⟨lr, t6, X1, D1, ls1, rfl, S6⟩
  have H6 := Lib.hid S6.go.st
  have L6 := Lib.hid (S6.go.keep L5.out)
  have HE6 : Hid (t6.E = t.E) := S6.go.E
  have HLR : Hid (lr ≤ X1.last) := by
    have h1 : X0.last = 0 := by rw [HX0.out]; rfl
    rcases S6.lr with ⟨e1, e2⟩ | e1
    · show lr ≤ _; omega
    · show lr ≤ _; omega
  have HQ1 : Hid (∀ y, PutQ (fun _ => False) l n X0.last X1.last y → y.good = true ∧ y.ver.toNat ≤ X1.last) := by
    rintro y (hy | ⟨q1, _, q3, _⟩)
    · exact hy.elim
    · exact ⟨q1, q3⟩
  clear S6 HP L5
  obtain ⟨Q1, hQ1⟩ : ∃ Q1, Q1 = PutQ (fun _ => False) l n X0.last X1.last := ⟨_, rfl⟩
  rw [← hQ1] at H6 HQ1
  clear hQ1
  go_wp2_with fail
  have HW := Lib.hid (H6.out.wipe (by omega))
  obtain ⟨_, _, _, q4⟩ := H6.out.all.run.wipe (by omega)
  obtain ⟨X2, hX2⟩ : ∃ X2, X2 = X1.wipeX D1 := ⟨_, rfl⟩
  obtain ⟨D2, hD2⟩ : ∃ D2, D2 = D1.stD X1.wB := ⟨_, rfl⟩
  rw [← hX2, ← hD2, HE6.out] at HW
  rw [← hX2] at q4
  have F2 : Hid (X2.last = X1.last ∧ X2.blk.horizon = X1.last) := by rw [q4]; exact ⟨rfl, rfl⟩
  clear q4 hX2 hD2
  refine HW.out.mono ?_
  rintro e w7 ⟨t7, rfl, s7⟩
  have H7 := Lib.hid s7.st
  have L7 := Lib.hid (s7.keep L6.out)
  have HE7 : Hid (t7.E = t.E) := s7.E.trans HE6.out
  clear s7 HW L6 H6
  go_wp2_with fail
  have hit : X2.items D2 = [] := by
    refine List.eq_nil_iff_forall_not_mem.2 (fun x hx => ?_)
    obtain ⟨k1, k2, _⟩ := H7.out.all.items_q hx
    have k3 := (HQ1.out x k1).2
    have k4 := counts_hor k2
    have := F2.out.2
    omega
  have HI := Lib.hid (H7.out.items (fun x hx => (HQ1.out x hx).1))
  rw [hit, HE7.out] at HI
  refine HI.out.mono ?_
  rintro e w8 ⟨v, rfl, ho8, s8⟩
  obtain ⟨A8, c8, rfl, _, _⟩ := own_slice ho8
  have H8 := Lib.hid s8.st
  have L8 := Lib.hid (s8.keep L7.out)
  clear s8 HI L7 H7 hit ho8
  simp only [List.length_nil]
  go_wp2_with fail
  have HP := Lib.hid (put10_calls H8.out A2 n2 cp2 xs2 l2 te2 H2.out.1 H2.out.2.1 H2.out.2.2.1 (by omega) H2.out.2.2.2 (by omega) (fun y hy => by rw [F2.out.1]; exact (HQ1.out y hy).2) (fun _ _ _ _ _ _ _ _ => True.intro) (fun _ _ _ _ _ => True.intro) 0)
  rw [show ((0 : Nat) : Int) = 0 from rfl, HE7.out] at HP
  refine HP.out.mono ?_
  rintro e w9 ⟨lr2, t9, X3, D3, ls3, rfl, S9⟩
  have H9 := Lib.hid S9.go.st
  have L9 := Lib.hid (S9.go.keep L8.out)
  have F3 : Hid (X3.blk.horizon = X1.last) := S9.hor.trans F2.out.2
  have HQ3 : Hid (∀ y, PutQ Q1 l2 n2 X2.last X3.last y → y.good = true) := by
    rintro y (hy | ⟨q1, _⟩)
    · exact (HQ1.out y hy).1
    · exact q1
  clear S9 HP L8 H8
  go_wp2_with fail
  have HFF : Hid (∀ k, h.foot k → w.heap.size ≤ k) := fun k hk => H9.out.far k (.inl hk)
  have HCR := Lib.hid (crash10 H9.out.dev HFF.out H9.out.chg A3 n3 cp3 picks te3 H3.out.1 H3.out.2)
  refine HCR.out.mono ?_
  rintro e w10 ⟨rfl, hd10, hc10, hf10⟩
  have HD10 := Lib.hid hd10
  have HC10 := Lib.hid hc10
  have HB10 := Lib.hid (L9.out.blk.chg hf10 (fun hk => L9.out.no (.inl hk)))
  have HBN : Hid (¬ h.foot bg) := fun hk => L9.out.no (.inl hk)
  have HALL := Lib.hid H9.out.all
  clear hd10 hc10 hf10 HCR L9 H9
  go_wp2_with fail
  refine (on10 HD10.out HFF.out HC10.out).mono ?_
  rintro e w11 ⟨rfl, hd11, hc11, hf11⟩
  have HD11 : Hid (DevAt w11 h (D3.back picks)) := hd11
  have HC11 := Lib.hid hc11
  have HB11 := Lib.hid (HB10.out.chg hf11 HBN.out)
  clear hd11 hc11 hf11 HD10 HC10 HB10
  have y0 := HB11.out.cell 0
  have y1 := HB11.out.cell 1
  have y2 := HB11.out.cell 2
  have y3 := HB11.out.cell 3
  simp at y0 y1 y2 y3
  go_wp2_with fail
  have HO := Lib.hid (open10 HALL.out (by omega) picks HD11.out HFF.out HC11.out)
  rw [show gLaw.V = .agg #[.int .i64 3, .int .i64 3, .int .i64 2, .int .i64 0] from rfl] at HO
  clear y0 y1 y2 y3
  refine HO.out.mono ?_
  rintro e w12 ⟨t12, b12, rfl, h12⟩
  have H12 := Lib.hid h12
  clear h12 HO HD11 HC11 HB11
  obtain ⟨Y, hY⟩ : ∃ Y, Y = Eng.opened (D3.back picks) gLaw := ⟨_, rfl⟩
  obtain ⟨E, hE⟩ : ∃ E, E = (D3.back picks).stD (Eng.now (D3.back picks)) := ⟨_, rfl⟩
  rw [← hY, ← hE] at H12
  clear hY hE
  rw [sbV_eq]
  go_wp2_with fail
  have HI := Lib.hid (H12.out.items HALL.out HQ3.out)
  refine HI.out.mono ?_
  rintro e w13 ⟨v, rfl, ho13, h13, hlen⟩
  obtain ⟨A13, c13, rfl, hnc, hrd⟩ := own_slice ho13
  have HV : Hid (∀ x ∈ Y.items E, lr < x.ver.toNat) := by
    intro x hx
    obtain ⟨_, _, k1, _⟩ := Aft.told HALL.out H12.out.aft H12.out.eng.lg.ok (Aft.items HALL.out H12.out.aft H12.out.eng.lg.ok hx)
    have := counts_hor k1
    have := F3.out
    have := HLR.out
    omega
  obtain ⟨il, hil⟩ : ∃ il, il = Y.items E := ⟨_, rfl⟩
  rw [← hil] at HV hrd hlen hnc ⊢
  have HRD := Lib.hid hrd
  have HC13 := Lib.hid h13.chg
  obtain ⟨m, hm⟩ : ∃ m, m = il.length := ⟨_, rfl⟩
  rw [← hm] at HRD hlen hnc ⊢
  have HM := Lib.hid hm
  clear HI H12 ho13 h13 hil hrd hm HALL
  go_wp2_with fail
  go_loopg [15] m (fun g v15 wr => ∃ k : Nat, v15 = .int .i64 k ∧ k ≤ m ∧ m - k = g ∧ Hid (Chg No w13 wr))
  case atStart => exact ⟨0, rfl, by omega, by omega, Chg.refl _ _⟩
  case round =>
    obtain ⟨k, rfl, hk, hg, HH⟩ := hrel
    by_cases hkm : k < m
    · obtain ⟨x, hx⟩ : ∃ x, il[k]? = some x := ⟨_, List.getElem?_eq_getElem (by rw [← HM.out]; exact hkm)⟩
      have hv := HV.out x (List.mem_of_getElem? hx)
      obtain ⟨gy, oy, eA, hcy⟩ := rd_at6 (HRD.out.chg HH.out (fun _ _ _ _ h => h)) hkm hx
      subst eA
      obtain ⟨y0, y1, y2, y3, y4⟩ := hcy wr (Chg.refl _ _)
      have hvi : ¬ (x.ver.toNat : Int) ≤ (lr : Int) := by omega
      clear hcy hx hv y0 y1 y2 y3
      go_wp2_with fail
      go_roundg (m - (k + 1))
      case measure => omega
      case rel => exact ⟨k + 1, by go_num, by omega, rfl, HH.out⟩
    · obtain rfl : k = m := by omega
      go_wp2_with fail
      go_ret
      exact ⟨rfl, HC13.out.trans HH.out⟩
end Go.Proofs.YtplpbbdakihnfaaGreat
end

section
namespace Go.Proofs.YtplpbbdakihnfaaGreat
open Go.RowKit
section
variable {n : Nat} {ks : List ByteArray} {g : Geo} {Q Q2 : Item → Prop} {K : ByteArray → Prop} {c c2 : Nat} {X X2 Y : Eng} {D D2 E : Dev} {ls ls2 : List (List Item)}
theorem All.rebase (h : All g Q K c X D ls) : All g (fun y => Q y ∧ X.may y.key = true) K c X D ls := by
  have hB : ∀ k, X.B.may k = true → X.may k = true := fun k hk => by unfold Eng.may; rw [hk]; rfl
  have hC : ∀ k, (X.B.may k = true ∨ X.G.has k = true) → X.may k = true := fun k hk => by
    rcases hk with hk | hk
    · exact hB k hk
    · unfold Eng.may; rw [hk]; simp
  refine ⟨h.run, ⟨h.bks.bk, h.bks.fine, fun i l hi x hx => ⟨h.bks.q i l hi x hx, hB _ (h.bks.may_ hi hx)⟩, fun i l hi => ?_⟩, ?_, h.jns, h.jgen⟩
  · obtain ⟨l', h1, h2⟩ := h.bks.fl i l hi
    exact ⟨l', h1, fun x hx => ⟨⟨(h2 x hx).1, hB _ (h2 x hx).2.1⟩, (h2 x hx).2⟩⟩
  · have hl := h.lgs
    refine ⟨hl.live, hl.nums, hl.cov, hl.few, hl.num, fun i S hS x hx => ?_, fun x hx => ?_, hl.pg, hl.still⟩
    · obtain ⟨j, hj⟩ := List.mem_iff_getElem?.1 hx
      obtain ⟨k1, k2⟩ := hl.stands hS hj
      exact ⟨k1, hC _ k2⟩
    · obtain ⟨j, hj⟩ := List.mem_iff_getElem?.1 hx
      exact ⟨hl.qo x hx, hC _ (hl.cov.known (p := ⟨true, 0, j⟩) ⟨x, rfl, .inl ⟨rfl, rfl, hj⟩⟩)⟩
structure Rid (ks : List ByteArray) (X X2 : Eng) (last : Nat) : Prop where
  no : ∀ k ∈ ks, X.may k = true → ∀ x : Item, x.key = k → x.ver.toNat ≤ last → X2.counts x = false
theorem All.rid_ (h : All g Q K c X D ls) (hc : c + 1 ≤ 1000000) (ks : List ByteArray) : Rid ks X (X.rm D ks).2.1 X.last := by
  obtain ⟨_, _, _, _, _, _, _, q, _⟩ := h.remove hc ks
  exact ⟨fun k hk hm x hx hv => counts_no (by rw [hx]; exact q k hk hm _ hv)⟩
theorem Rid.same (h : Rid ks X X2 n) (hJ : Y.J = X2.J) (hb : Y.blk.horizon = X2.blk.horizon) : Rid ks X Y n := by
  refine ⟨fun k hk hm x hx hv => ?_⟩
  have := h.no k hk hm x hx hv
  unfold Eng.counts at this ⊢
  rw [hJ, hb]; exact this
end
end Go.Proofs.YtplpbbdakihnfaaGreat
end

section
namespace Go.Proofs.YtplpbbdakihnfaaGreat
open Go.RowKit
attribute [local go_sem ↓] Go.wp_at_zero Go.wp_at_succ
section
variable {w0 w w' : World} {h : DevH} {t : EngH} {g : Geo} {Q : Item → Prop} {K : ByteArray → Prop} {c : Nat} {X Y : Eng} {D E : Dev} {ls : List (List Item)}
theorem Heng.rebase (H : Heng w0 h t g Q K c X D ls w) : Heng w0 h t g (fun y => Q y ∧ X.may y.key = true) K c X D ls w := ⟨H.dev, H.eng, H.all.rebase, H.far, H.chg⟩
theorem get_one (X : Eng) (D : Dev) (k : ByteArray) : (X.getE D k = 0 ∧ X.one D k = some (X.get D k)) ∨ (X.getE D k = 5 ∧ X.one D k = none ∧ X.get D k = Item.zero) := by
  unfold Eng.getE Eng.get
  cases h : X.one D k with
  | none => exact .inr ⟨rfl, rfl, rfl⟩
  | some x => exact .inl ⟨rfl, rfl⟩
theorem Aft.rid {X1 : Eng} {ks : List ByteArray} {last : Nat} (h : All g Q K c X D ls) (ha : Aft g Q K X ls Y E) (ho : Y.G.Ok) (hr : Rid ks X1 X last) (hQ : ∀ y, Q y → y.ver.toNat ≤ last → X1.may y.key = true) {k : ByteArray} (hk : k ∈ ks) {x : Item} (hx : Y.one E k = some x) : last < x.ver.toNat := by
  obtain ⟨h1, h2, h3, _⟩ := ha.told h ho hx
  rcases Nat.lt_or_ge last x.ver.toNat with h9 | h9
  · exact h9
  · have := hr.no k hk (by rw [← h1]; exact hQ x h2 h9) x h1 h9
    rw [this] at h3; cases h3
end
set_option maxRecDepth 100000 in
set_option maxHeartbeats 8000000 in
theorem egone_calls (w : World) (A : Option Addr) (n cp : Nat) (xs : List Value) (l : List (Int × Item)) (te : TypeId) (hn : l.length = n) (hr : Rd w te A (n * 12) xs) (hxs : Calls10 xs l) (hsz : ∀ p ∈ l, p.2.key.size ≤ 140737488351232 ∧ p.2.val.size ≤ 140737488351232)
    (AK : Option Addr) (nk ck : Nat) (ks : List ByteArray) (tk : TypeId) (hnk : ks.length = nk) (hrk : Rd w tk AK nk (ks.map skey)) (hsk : ∀ k ∈ ks, k.size ≤ 140737488351232)
    (A2 : Option Addr) (n2 cp2 : Nat) (xs2 : List Value) (l2 : List (Int × Item)) (te2 : TypeId) (hn2 : l2.length = n2) (hr2 : Rd w te2 A2 (n2 * 12) xs2) (hxs2 : Calls10 xs2 l2) (hsz2 : ∀ p ∈ l2, p.2.key.size ≤ 140737488351232 ∧ p.2.val.size ≤ 140737488351232)
    (A3 : Option Addr) (n3 cp3 : Nat) (picks : List UInt8) (te3 : TypeId) (hn3 : picks.length = n3) (hr3 : Rd w te3 A3 n3 (bys picks)) :
    Calls Tryz.prog 6 #[.slice A n cp, .slice AK nk ck, .slice A2 n2 cp2, .slice A3 n3 cp3] w fun e w' => e = .returned (.bool true) ∧ Chg No w w' := by
  have HAW := Lib.hid (awake10_calls w)
  have HN0 := fun W => Lib.hid (eng_new30 W)
  have H1 := Lib.hid (And.intro hn (And.intro hr (And.intro hxs hsz)))
  have H2 := Lib.hid (And.intro hn2 (And.intro hr2 (And.intro hxs2 hsz2)))
  have H3 := Lib.hid (And.intro hn3 hr3)
  have HK := Lib.hid (And.intro hnk (And.intro hrk hsk))
  clear hn hr hxs hsz hn2 hr2 hxs2 hsz2 hn3 hr3 hnk hrk hsk
  by_cases hle : n ≤ 20 ∧ n2 ≤ 10 ∧ nk ≤ 30
  rotate_left
  · by_cases h20 : 20 < n
    · have hb : decide ((20 : Int) < (n : Int)) = true := by simp; omega
      have hb2 : (20 : Int) < (n : Int) := by omega
      clear hle h20
      go_enter Tryz.func6, Tryz.ntmps6
      go_wp2_with fail
      refine HAW.out.mono ?_
      rintro e w1 ⟨rfl, hc1⟩
      have HC1 := Lib.hid hc1
      clear hc1
      go_wp2_with fail
      go_ret
      exact ⟨rfl, HC1.out⟩
    · by_cases h10 : 10 < n2
      · have hb2 : ¬ (20 : Int) < (n : Int) := by omega
        have hb3 : (10 : Int) < (n2 : Int) := by omega
        clear hle h20 h10
        go_enter Tryz.func6, Tryz.ntmps6
        go_wp2_with fail
        refine HAW.out.mono ?_
        rintro e w1 ⟨rfl, hc1⟩
        have HC1 := Lib.hid hc1
        clear hc1
        go_wp2_with fail
        go_ret
        exact ⟨rfl, HC1.out⟩
      · have hb2 : ¬ (20 : Int) < (n : Int) := by omega
        have hb3 : ¬ (10 : Int) < (n2 : Int) := by omega
        have hb4 : (30 : Int) < (nk : Int) := by omega
        clear hle h20 h10
        go_enter Tryz.func6, Tryz.ntmps6
        go_wp2_with fail
        refine HAW.out.mono ?_
        rintro e w1 ⟨rfl, hc1⟩
        have HC1 := Lib.hid hc1
        clear hc1
        go_wp2_with fail
        go_ret
        exact ⟨rfl, HC1.out⟩
  obtain ⟨hl1, hl2, hl3⟩ := hle
  have hb4 : ¬ (30 : Int) < (nk : Int) := by omega
  have hb2 : ¬ (20 : Int) < (n : Int) := by omega
  have hb3 : ¬ (10 : Int) < (n2 : Int) := by omega
  go_enter Tryz.func6, Tryz.ntmps6
  go_wp2_with fail
  refine HAW.out.mono ?_
  rintro e w1 ⟨rfl, hc1⟩
  have HC1 := Lib.hid hc1
  clear hc1 HAW
  go_wp2_with fail
  refine (HN0 _).out.mono ?_
  rintro e w2 ⟨h, rfl, hd2, hc2, hf2⟩
  have HD2 := Lib.hid hd2
  have HC2 := Lib.hid (HC1.out.trans hc2)
  have HF2 : Hid (∀ k, h.foot k → w.heap.size ≤ k) := fun k hk => Nat.le_trans HC1.out.size (hf2 k hk)
  clear hd2 hc2 hf2 HN0 HC1
  go_wp2_with fail
  have a3 : Chg No w2 (w2.alloc (.cells #[.int .i64 3, .int .i64 3, .int .i64 2, .int .i64 0] 34)) := (Chg.refl No w2).alloc _
  obtain ⟨n1, nn2, nn3, nn4, nn5⟩ := all_new 30 gLaw rfl (by decide) (fun _ => True)
  have HO := Lib.hid (Heng.opened (w0 := w) (h := h) ((DevN.chgNo HD2.out a3).at_) HF2.out (HC2.out.trans a3) (g := gLaw) rfl (by decide) rfl (by rw [n1]; decide) (by rw [n1]; decide) nn2 nn4)
  rw [n1, show gLaw.V = .agg #[.int .i64 3, .int .i64 3, .int .i64 2, .int .i64 0] from rfl] at HO
  have HB3 := Lib.hid (Blk.new w2 34 #[.int .i64 3, .int .i64 3, .int .i64 2, .int .i64 0])
  have HBF : Hid (¬ h.foot w2.heap.size) := fun hk => by have := foot_size HD2.out hk; omega
  obtain ⟨X0, hX0⟩ : ∃ X0, X0 = Eng.opened (Dev.new 30) gLaw := ⟨_, rfl⟩
  obtain ⟨D0, hD0⟩ : ∃ D0, D0 = (Dev.new 30).stD (Eng.now (Dev.new 30)) := ⟨_, rfl⟩
  rw [← hX0, ← hD0] at HO
  rw [← hX0] at nn3
  have HX0 := Lib.hid nn3
  obtain ⟨bg, hbg⟩ : ∃ bg, bg = w2.heap.size := ⟨_, rfl⟩
  rw [← hbg] at HB3 HBF ⊢
  have HBG := Lib.hid hbg
  clear a3 n1 nn2 nn3 nn4 nn5 hX0 hD0 hbg HD2 HC2
  refine HO.out.mono ?_
  rintro e w4 ⟨t, rfl, h4, hc4, hall⟩
  have L4 : Hid (Loc10 w4 h t bg 34 #[.int .i64 3, .int .i64 3, .int .i64 2, .int .i64 0]) := ⟨HB3.out.chg hc4 HBF.out, fun hk => (hall bg hk).elim HBF.out (fun h9 => by have := HBG.out; simp at h9; omega)⟩
  have H4 := Lib.hid h4
  clear h4 hc4 hall HO HB3
  rw [sbV_eq]
  go_wp2_with fail
  have a5 : Chg No w4 (w4.alloc (.cells #[.int .u64 Sb.zero.seq, .int .u64 Sb.zero.epoch, .int .u64 Sb.zero.reserved, .int .u64 Sb.zero.horizon, .int .u64 Sb.zero.gen, .bool Sb.zero.clean, .int .i64 Sb.zero.image] tSb)) := (Chg.refl No w4).alloc _
  have HP := Lib.hid (put10_calls (H4.out.chgNo a5) A n cp xs l te H1.out.1 H1.out.2.1 H1.out.2.2.1 (by omega) H1.out.2.2.2 (by omega) (fun y hy => hy.elim) (fun _ _ _ _ _ _ _ _ => True.intro) (fun _ _ _ _ _ => True.intro) 0)
  rw [show ((0 : Nat) : Int) = 0 from rfl] at HP
  have L5 := Lib.hid (L4.out.chgNo a5)
  clear a5 H4 L4
  refine HP.out.mono ?_
  rintro e w6 ⟨lr, t6, X1, D1, ls1, rfl, S6⟩
  have H6 := Lib.hid S6.go.st
  have L6 := Lib.hid (S6.go.keep L5.out)
  have HE6 : Hid (t6.E = t.E) := S6.go.E
  have HLR : Hid (lr ≤ X1.last) := by
    have h1 : X0.last = 0 := by rw [HX0.out]; rfl
    rcases S6.lr with ⟨e1, e2⟩ | e1
    · show lr ≤ _; omega
    · show lr ≤ _; omega
  have HQ1 : Hid (∀ y, PutQ (fun _ => False) l n X0.last X1.last y → y.good = true ∧ y.ver.toNat ≤ X1.last) := by
    rintro y (hy | ⟨q1, _, q3, _⟩)
    · exact hy.elim
    · exact ⟨q1, q3⟩
  clear S6 HP L5
  obtain ⟨Q1, hQ1⟩ : ∃ Q1, Q1 = PutQ (fun _ => False) l n X0.last X1.last := ⟨_, rfl⟩
  rw [← hQ1] at H6 HQ1
  clear hQ1
  go_wp2_with fail
  have HRM := Lib.hid (H6.out.rebase.remove (by omega) AK nk ck ks HK.out.1 tk (HK.out.2.1.chg H6.out.chg (fun _ _ _ _ h => h)) (by omega) HK.out.2.2)
  have RID := Lib.hid (H6.out.all.rid_ (by omega) ks)
  obtain ⟨_, _, _, _, q5, _⟩ := H6.out.all.remove (by omega) ks
  obtain ⟨X2, hX2⟩ : ∃ X2, X2 = (X1.rm D1 ks).2.1 := ⟨_, rfl⟩
  obtain ⟨D2, hD2⟩ : ∃ D2, D2 = (X1.rm D1 ks).2.2 := ⟨_, rfl⟩
  rw [← hX2, ← hD2, HE6.out] at HRM
  rw [← hX2] at q5 RID
  have F2 := Lib.hid q5
  clear q5 hX2 hD2
  have HQ2 : Hid (∀ y, (Q1 y ∧ X1.may y.key = true) → y.good = true ∧ y.ver.toNat ≤ X1.last ∧ X1.may y.key = true) := fun y hy => ⟨(HQ1.out y hy.1).1, (HQ1.out y hy.1).2, hy.2⟩
  obtain ⟨Q2, hQ2⟩ : ∃ Q2 : Item → Prop, Q2 = (fun y => Q1 y ∧ X1.may y.key = true) := ⟨_, rfl⟩
  rw [← hQ2] at HRM
  have HQ2' : Hid (∀ y, Q2 y → y.good = true ∧ y.ver.toNat ≤ X1.last ∧ X1.may y.key = true) := fun y hy => HQ2.out y (by rw [hQ2] at hy; exact hy)
  clear HQ2 hQ2
  refine HRM.out.mono ?_
  rintro e w8 ⟨t8, rfl, s8⟩
  have H8 := Lib.hid s8.st
  have L8 := Lib.hid (s8.keep L6.out)
  have HE8 : Hid (t8.E = t.E) := s8.E.trans HE6.out
  clear s8 HRM L6 H6 HQ1
  go_wp2_with fail
  have HP := Lib.hid (put10_calls H8.out A2 n2 cp2 xs2 l2 te2 H2.out.1 H2.out.2.1 H2.out.2.2.1 (by omega) H2.out.2.2.2 (by omega) (fun y hy => by rw [F2.out]; exact (HQ2'.out y hy).2.1) (fun _ _ _ _ _ _ _ _ => True.intro) (fun _ _ _ _ _ => True.intro) 0)
  rw [show ((0 : Nat) : Int) = 0 from rfl, HE8.out] at HP
  refine HP.out.mono ?_
  rintro e w9 ⟨lr2, t9, X3, D3, ls3, rfl, S9⟩
  have H9 := Lib.hid S9.go.st
  have L9 := Lib.hid (S9.go.keep L8.out)
  have RID3 := Lib.hid (RID.out.same S9.J S9.hor)
  have HQ3 : Hid (∀ y, PutQ Q2 l2 n2 X2.last X3.last y → y.good = true ∧ (y.ver.toNat ≤ X1.last → X1.may y.key = true)) := by
    rintro y (hy | ⟨q1, q2, _⟩)
    · exact ⟨(HQ2'.out y hy).1, fun _ => (HQ2'.out y hy).2.2⟩
    · exact ⟨q1, fun h9 => by have := F2.out; omega⟩
  clear S9 HP L8 H8
  go_wp2_with fail
  have HFF : Hid (∀ k, h.foot k → w.heap.size ≤ k) := fun k hk => H9.out.far k (.inl hk)
  have HCR := Lib.hid (crash10 H9.out.dev HFF.out H9.out.chg A3 n3 cp3 picks te3 H3.out.1 H3.out.2)
  refine HCR.out.mono ?_
  rintro e w10 ⟨rfl, hd10, hc10, hf10⟩
  have HD10 := Lib.hid hd10
  have HC10 := Lib.hid hc10
  have HB10 := Lib.hid (L9.out.blk.chg hf10 (fun hk => L9.out.no (.inl hk)))
  have HBN : Hid (¬ h.foot bg) := fun hk => L9.out.no (.inl hk)
  have HALL := Lib.hid H9.out.all
  clear hd10 hc10 hf10 HCR L9 H9
  go_wp2_with fail
  refine (on10 HD10.out HFF.out HC10.out).mono ?_
  rintro e w11 ⟨rfl, hd11, hc11, hf11⟩
  have HD11 : Hid (DevAt w11 h (D3.back picks)) := hd11
  have HC11 := Lib.hid hc11
  have HB11 := Lib.hid (HB10.out.chg hf11 HBN.out)
  clear hd11 hc11 hf11 HD10 HC10 HB10
  have y0 := HB11.out.cell 0
  have y1 := HB11.out.cell 1
  have y2 := HB11.out.cell 2
  have y3 := HB11.out.cell 3
  simp at y0 y1 y2 y3
  go_wp2_with fail
  have HO := Lib.hid (open10 HALL.out (by omega) picks HD11.out HFF.out HC11.out)
  rw [show gLaw.V = .agg #[.int .i64 3, .int .i64 3, .int .i64 2, .int .i64 0] from rfl] at HO
  clear y0 y1 y2 y3
  refine HO.out.mono ?_
  rintro e w12 ⟨t12, b12, rfl, h12⟩
  have H12 := Lib.hid h12
  clear h12 HO HD11 HC11 HB11
  obtain ⟨Y, hY⟩ : ∃ Y, Y = Eng.opened (D3.back picks) gLaw := ⟨_, rfl⟩
  obtain ⟨E, hE⟩ : ∃ E, E = (D3.back picks).stD (Eng.now (D3.back picks)) := ⟨_, rfl⟩
  rw [← hY, ← hE] at H12
  clear hY hE
  have HG : Hid (∀ k ∈ ks, ∀ x, Y.one E k = some x → lr < x.ver.toNat) := by
    intro k hk x hx
    have h9 := Aft.rid HALL.out H12.out.aft H12.out.eng.lg.ok RID3.out (fun y hy => (HQ3.out y hy).2) hk hx
    have := HLR.out
    omega
  rw [sbV_eq]
  go_wp2_with fail
  go_loopg [16] nk (fun g v16 wr => ∃ k : Nat, v16 = .int .i64 k ∧ k ≤ nk ∧ nk - k = g ∧ Hid (Haft w h t12 gLaw (PutQ Q2 l2 n2 X2.last X3.last) (fun _ => True) X3 ls3 Y E wr))
  case atStart => exact ⟨0, rfl, by omega, by omega, H12.out⟩
  case round =>
    obtain ⟨k, rfl, hk, hg, HH⟩ := hrel
    by_cases hkm : k < nk
    · obtain ⟨key, hkey⟩ : ∃ key, ks[k]? = some key := ⟨_, List.getElem?_eq_getElem (by rw [HK.out.1]; exact hkm)⟩
      have hin := List.mem_of_getElem? hkey
      obtain ⟨gy, oy, eA, hgy, hcy⟩ := (HK.out.2.1.chg HH.out.chg (fun _ _ _ _ h => h)).at_ (j := k) hkm
      subst eA
      have d0 : wr.cell? ⟨gy, oy + k, none⟩ = some (.string key) := hcy _ _ (by rw [List.getElem?_map, hkey]; rfl)
      have HT := Lib.hid (HH.out.get HALL.out (fun y hy => (HQ3.out y hy).1) key (HK.out.2.2 key hin))
      have HGK := Lib.hid (HG.out key hin)
      clear hcy hin hkey
      go_wp2_with fail
      refine HT.out.mono ?_
      rintro e w13 ⟨rfl, h13⟩
      have HH13 := Lib.hid h13
      clear h13 HT
      rcases get_one Y E key with ⟨e1, e2⟩ | ⟨e1, e2, e3⟩
      · rw [e1]
        have hv := HGK.out _ e2
        obtain ⟨x, hx⟩ : ∃ x, x = Y.get E key := ⟨_, rfl⟩
        rw [← hx] at hv ⊢
        have hvi : ¬ (x.ver.toNat : Int) ≤ (lr : Int) := by omega
        clear e1 e2 hx hv
        go_wp2_with fail
        go_roundg (nk - (k + 1))
        case measure => omega
        case rel => exact ⟨k + 1, by go_num, by omega, rfl, HH13.out.chgNo ((Chg.refl No w13).alloc _)⟩
      · rw [e1, e3]
        clear e1 e2 e3
        go_wp2_with fail
        go_roundg (nk - (k + 1))
        case measure => omega
        case rel => exact ⟨k + 1, by go_num, by omega, rfl, HH13.out.chgNo ((Chg.refl No w13).alloc _)⟩
    · obtain rfl : nk = k := by omega
      go_wp2_with fail
      have HI := Lib.hid (HH.out.items HALL.out (fun y hy => (HQ3.out y hy).1))
      refine HI.out.mono ?_
      rintro e w13 ⟨v, rfl, ho13, h13, hlen⟩
      obtain ⟨A13, c13, rfl, hnc, hrd⟩ := own_slice ho13
      have HV : Hid (∀ x ∈ Y.items E, x.key ∈ ks → lr < x.ver.toNat) := by
        intro x hx hk
        exact HG.out _ hk x (Aft.items HALL.out H12.out.aft H12.out.eng.lg.ok hx)
      obtain ⟨il, hil⟩ : ∃ il, il = Y.items E := ⟨_, rfl⟩
      rw [← hil] at HV hrd hlen hnc ⊢
      have HRD := Lib.hid hrd
      have HC13 := Lib.hid h13.chg
      obtain ⟨m, hm⟩ : ∃ m, m = il.length := ⟨_, rfl⟩
      rw [← hm] at HRD hlen hnc ⊢
      have HM := Lib.hid hm
      clear HI HH H12 ho13 h13 hil hrd hm HALL
      go_wp2_with fail
      go_loopg [20, 21] m (fun g v20 v21 wr => ∃ i : Nat, v20 = .int .i64 i ∧ i ≤ m ∧ m - i = g ∧ Hid (Chg No w13 wr))
      case atStart => exact ⟨0, rfl, by omega, by omega, Chg.refl _ _⟩
      case round =>
        obtain ⟨i, rfl, hi, hg, HH⟩ := hrel
        by_cases him : i < m
        · obtain ⟨x, hx⟩ : ∃ x, il[i]? = some x := ⟨_, List.getElem?_eq_getElem (by rw [← HM.out]; exact him)⟩
          have HVX := Lib.hid (HV.out x (List.mem_of_getElem? hx))
          have HX := Lib.hid hx
          clear hx
          go_wp2_with fail
          go_loopg [21] nk (fun g v21 wr2 => ∃ k : Nat, v21 = .int .i64 k ∧ k ≤ nk ∧ nk - k = g ∧ Hid (Chg No w13 wr2))
          case atStart => exact ⟨0, rfl, by omega, by omega, HH.out⟩
          case round =>
            obtain ⟨k, rfl, hk, hg2, HH2⟩ := hrel
            by_cases hkm : k < nk
            · obtain ⟨key, hkey⟩ : ∃ key, ks[k]? = some key := ⟨_, List.getElem?_eq_getElem (by rw [HK.out.1]; exact hkm)⟩
              have hin := List.mem_of_getElem? hkey
              obtain ⟨gy, oy, eA, hgy, hcy⟩ := (HK.out.2.1.chg (HC13.out.trans HH2.out) (fun _ _ _ _ h => h)).at_ (j := k) hkm
              subst eA
              have d0 : wr.cell? ⟨gy, oy + k, none⟩ = some (.string key) := hcy _ _ (by rw [List.getElem?_map, hkey]; rfl)
              clear hcy hkey hgy
              obtain ⟨gx, ox, eB, hcx⟩ := rd_at6 (HRD.out.chg HH2.out (fun _ _ _ _ h => h)) him HX.out
              subst eB
              obtain ⟨y0, y1, y2, y3, y4⟩ := hcx wr (Chg.refl _ _)
              clear hcx y1 y2 y3
              have z1 : (0 : Int) ≤ (k : Int) := by omega
              have z2 : (k : Int) < (nk : Int) := by omega
              have z3 : (0 : Int) ≤ (i : Int) := by omega
              have z4 : (i : Int) < (m : Int) := by omega
              by_cases hkk : x.key = key
              · have hv := HVX.out (by rw [hkk]; exact hin)
                have hvi : decide ((x.ver.toNat : Int) ≤ (lr : Int)) = false := by simp; omega
                have hvn : ¬ x.ver.toNat ≤ lr := by omega
                rw [hkk] at y0
                clear hv hin hkk
                go_wp2_with fail
                go_quiet (fail)
                go_wp2_with fail
                go_roundg (nk - (k + 1))
                case measure => omega
                case rel => exact ⟨k + 1, by go_num, by omega, rfl, Chg.drewN HH2.out _⟩
              · have hse := str_eq x.key key
                rw [decide_eq_false hkk] at hse
                clear hin
                go_wp2_with fail
                go_quiet (fail)
                go_wp2_with fail
                go_roundg (nk - (k + 1))
                case measure => omega
                case rel => exact ⟨k + 1, by go_num, by omega, rfl, Chg.drewN HH2.out _⟩
            · obtain rfl : nk = k := by omega
              go_wp2_with fail
              go_roundg (m - (i + 1))
              case measure => omega
              case rel => exact ⟨i + 1, by go_num, by omega, rfl, HH2.out⟩
        · obtain rfl : i = m := by omega
          go_wp2_with fail
          go_ret
          exact ⟨rfl, HC13.out.trans HH.out⟩
end Go.Proofs.YtplpbbdakihnfaaGreat
end

section
namespace Go.Proofs.YtplpbbdakihnfaaGreat
open Go.RowKit Go.ChangeShapes Go.WideShapes Go.Deep
section
variable {H : Type} {enc : TypeId × Value → H} {w : World} {base : Nat} {spare : Nat → Bool} {held : Bool}
theorem str_cells : Tryz.prog.cellsOf 9 = 1 := by kernel_rfl
set_option maxRecDepth 100000 in
theorem open_strings {b0 : Nat} {v : Value} {d : DataW H} {p : List MemPlace} (hv : Value.okWide Tryz.prog w .any b0 49 v) (h : DataW.Trod enc Tryz.prog w base (fun _ => true) held 49 v d p) (hs : ∀ n ∈ d.weights Tryz.prog 49, n ≤ reachBytes) :
    ∃ (A : Option Addr) (n c : Nat) (l : List ByteArray) (t : TypeId), v = .slice A n c ∧ l.length = n ∧ n ≤ c ∧ Rd w t A n (l.map skey) ∧ ∀ k ∈ l, k.size ≤ reachBytes := by
  obtain ⟨A, n, c, rfl⟩ := okWide_slice Tryz.underlying49 hv
  obtain ⟨fuel, hf⟩ := h
  rcases open_strs Tryz.underlying49 Tryz.underlying9 str_cells hf with ⟨hcs, _⟩ | ⟨a, len, cap, m, Sx, hcs, _, hl, hm, hmm, hx, hcell⟩
  · simp only [Value.cells, List.cons.injEq, and_true, Value.slice.injEq] at hcs
    obtain ⟨rfl, rfl, rfl⟩ := hcs
    exact ⟨none, 0, 0, [], tItem, rfl, rfl, Nat.le_refl _, Rd.nil _ _ _, fun x hx => by cases hx⟩
  · simp only [Value.cells, List.cons.injEq, and_true, Value.slice.injEq] at hcs
    obtain ⟨rfl, rfl, rfl⟩ := hcs
    simp only [if_true] at hmm
    subst hmm
    have hd : d = .slice ((List.range n).map fun i => .lit (.string (Sx i).data.toList)) ((List.range (m - n)).map fun j => .lit (.string (Sx (n + j)).data.toList)) := congrArg Prod.fst hx
    subst hd
    have hstr : ∀ k ∈ (List.range n).map Sx, k.size ≤ reachBytes := by
      intro k hk
      obtain ⟨i, hi1, rfl⟩ := List.mem_map.1 hk
      have h9 := hs (Sx i).size (by
        simp only [DataW.weights, Tryz.underlying49, List.mem_cons, List.mem_append]
        refine .inr (.inl (weights_all (d := .lit (.string (Sx i).data.toList)) (List.mem_map_of_mem (f := fun i => (DataW.lit (.string (Sx i).data.toList) : DataW H)) hi1) _ ?_))
        simp [DataW.weights])
      exact h9
    by_cases hn : n = 0
    · subst hn
      exact ⟨some a, 0, m, [], tItem, rfl, rfl, hl, Rd.nil _ _ _, fun x hx => by cases hx⟩
    · obtain ⟨g, off, spot⟩ := a
      have hspot : spot = none := by
        have := (hcell 0 (by omega)).1
        simpa [Addr.add] using World.cell?_spot this
      subst hspot
      have h00 := (hcell 0 (by omega)).1
      obtain ⟨cur, t, fz, hg⟩ : ∃ cur t fz, w.heap[g]? = some (.cells cur t fz) := by
        unfold World.cell? at h00
        simp only [Addr.add, if_true] at h00
        split at h00
        · rename_i c t fz hh; exact ⟨c, t, fz, hh⟩
        · cases h00
      refine ⟨some ⟨g, off, none⟩, n, m, (List.range n).map Sx, t, rfl, by simp, hl, ⟨by simp, fun _ => ⟨g, off, cur, fz, rfl, hg, ?_⟩⟩, hstr⟩
      intro j u hu
      rw [List.map_map, List.getElem?_map] at hu
      have hjn : j < n := by
        rcases Nat.lt_or_ge j n with h9 | h9
        · exact h9
        · rw [List.getElem?_eq_none (by simpa using h9)] at hu; cases hu
      rw [List.getElem?_range hjn] at hu
      have hc := (hcell j (by omega)).1
      rw [add_at, cell_of_row w g _ cur t fz hg] at hc
      rw [hc]; exact hu
end
end Go.Proofs.YtplpbbdakihnfaaGreat
end
