/- Packed texts: EngWi, EngPj, EngGo, EngAg, OpenS. -/
import Derived.Test.YtplpbbdakihnfaaGreatPq28
import Derived.Test.YtplpbbdakihnfaaGreatPq29
import Derived.Deep.Strs
set_option linter.unusedSimpArgs false
set_option linter.unusedVariables false
section
namespace Go.Proofs.YtplpbbdakihnfaaGreat
open Go.RowKit
attribute [local go_sem ↓] Go.wp_at_zero Go.wp_at_succ
theorem eng_new30 (w : World) : Calls Tryz.prog 13 #[.int .i64 30] w fun e w' => ∃ h : DevH, e = .returned (.tuple #[.pointer (some ⟨h.d, 0, none⟩), .int .i64 0]) ∧ DevAt w' h (Dev.new 30) ∧ Chg No w w' ∧ ∀ k, h.foot k → w.heap.size ≤ k := new_calls 30 w (by decide) (by decide)
def gLaw : Geo := ⟨3, 3, 2, 0⟩
section
variable {g : Geo} {Q : Item → Prop} {K : ByteArray → Prop} {c : Nat} {X : Eng} {D : Dev} {ls : List (List Item)}
end
end Go.Proofs.YtplpbbdakihnfaaGreat
end

section
namespace Go.Proofs.YtplpbbdakihnfaaGreat
open Go.RowKit
section
variable {n : Nat} {ks : List ByteArray} {g : Geo} {Q Q2 : Item → Prop} {K : ByteArray → Prop} {c c2 : Nat} {X X2 Y : Eng} {D D2 E : Dev} {ls ls2 : List (List Item)}
theorem All.rebase (h : All g Q K c X D ls) : All g (fun y => Q y ∧ X.may y.key = true) K c X D ls := by
  have hB : ∀ k, X.B.may k = true → X.may k = true := fun k hk => by unfold Eng.may; rw [hk]; rfl
  have hC : ∀ k, (X.B.may k = true ∨ X.G.has k = true) → X.may k = true := fun k hk => by
    rcases hk with hk | hk
    · exact hB k hk
    · unfold Eng.may; rw [hk]; simp
  refine ⟨h.run, ⟨h.bks.bk, h.bks.fine, fun i l hi x hx => ⟨h.bks.q i l hi x hx, hB _ (h.bks.may_ hi hx)⟩, fun i l hi => ?_⟩, ?_, h.jns, h.jgen⟩
  · obtain ⟨l', h1, h2⟩ := h.bks.fl i l hi
    exact ⟨l', h1, fun x hx => ⟨⟨(h2 x hx).1, hB _ (h2 x hx).2.1⟩, (h2 x hx).2⟩⟩
  · have hl := h.lgs
    refine ⟨hl.live, hl.nums, hl.cov, hl.few, hl.num, fun i S hS x hx => ?_, fun x hx => ?_, hl.pg, hl.still⟩
    · obtain ⟨j, hj⟩ := List.mem_iff_getElem?.1 hx
      obtain ⟨k1, k2⟩ := hl.stands hS hj
      exact ⟨k1, hC _ k2⟩
    · obtain ⟨j, hj⟩ := List.mem_iff_getElem?.1 hx
      exact ⟨hl.qo x hx, hC _ (hl.cov.known (p := ⟨true, 0, j⟩) ⟨x, rfl, .inl ⟨rfl, rfl, hj⟩⟩)⟩
structure Rid (ks : List ByteArray) (X X2 : Eng) (last : Nat) : Prop where
  no : ∀ k ∈ ks, X.may k = true → ∀ x : Item, x.key = k → x.ver.toNat ≤ last → X2.counts x = false
theorem All.rid_ (h : All g Q K c X D ls) (hc : c + 1 ≤ 1000000) (ks : List ByteArray) : Rid ks X (X.rm D ks).2.1 X.last := by
  obtain ⟨_, _, _, _, _, _, _, q, _⟩ := h.remove hc ks
  exact ⟨fun k hk hm x hx hv => counts_no (by rw [hx]; exact q k hk hm _ hv)⟩
theorem Rid.same (h : Rid ks X X2 n) (hJ : Y.J = X2.J) (hb : Y.blk.horizon = X2.blk.horizon) : Rid ks X Y n := by
  refine ⟨fun k hk hm x hx hv => ?_⟩
  have := h.no k hk hm x hx hv
  unfold Eng.counts at this ⊢
  rw [hJ, hb]; exact this
end
end Go.Proofs.YtplpbbdakihnfaaGreat
end

section
namespace Go.Proofs.YtplpbbdakihnfaaGreat
open Go.RowKit
attribute [local go_sem ↓] Go.wp_at_zero Go.wp_at_succ
section
variable {w0 w w' : World} {h : DevH} {t : EngH} {g : Geo} {Q : Item → Prop} {K : ByteArray → Prop} {c : Nat} {X Y : Eng} {D E : Dev} {ls : List (List Item)}
theorem Heng.rebase (H : Heng w0 h t g Q K c X D ls w) : Heng w0 h t g (fun y => Q y ∧ X.may y.key = true) K c X D ls w := ⟨H.dev, H.eng, H.all.rebase, H.far, H.chg⟩
theorem get_one (X : Eng) (D : Dev) (k : ByteArray) : (X.getE D k = 0 ∧ X.one D k = some (X.get D k)) ∨ (X.getE D k = 5 ∧ X.one D k = none ∧ X.get D k = Item.zero) := by
  unfold Eng.getE Eng.get
  cases h : X.one D k with
  | none => exact .inr ⟨rfl, rfl, rfl⟩
  | some x => exact .inl ⟨rfl, rfl⟩
theorem Aft.rid {X1 : Eng} {ks : List ByteArray} {last : Nat} (h : All g Q K c X D ls) (ha : Aft g Q K X ls Y E) (ho : Y.G.Ok) (hr : Rid ks X1 X last) (hQ : ∀ y, Q y → y.ver.toNat ≤ last → X1.may y.key = true) {k : ByteArray} (hk : k ∈ ks) {x : Item} (hx : Y.one E k = some x) : last < x.ver.toNat := by
  obtain ⟨h1, h2, h3, _⟩ := ha.told h ho hx
  rcases Nat.lt_or_ge last x.ver.toNat with h9 | h9
  · exact h9
  · have := hr.no k hk (by rw [← h1]; exact hQ x h2 h9) x h1 h9
    rw [this] at h3; cases h3
end
end Go.Proofs.YtplpbbdakihnfaaGreat
end

section
namespace Go.Proofs.YtplpbbdakihnfaaGreat
open Go.RowKit
attribute [local go_sem ↓] Go.wp_at_zero Go.wp_at_succ
set_option maxRecDepth 100000 in
set_option maxHeartbeats 8000000 in
theorem eagain_calls (w : World) (A : Option Addr) (n cp : Nat) (xs : List Value) (l : List (Int × Item)) (te : TypeId) (hn : l.length = n) (hr : Rd w te A (n * 12) xs) (hxs : Calls10 xs l) (hsz : ∀ p ∈ l, p.2.key.size ≤ 140737488351232 ∧ p.2.val.size ≤ 140737488351232)
    (A2 : Option Addr) (n2 cp2 : Nat) (xs2 : List Value) (l2 : List (Int × Item)) (te2 : TypeId) (hn2 : l2.length = n2) (hr2 : Rd w te2 A2 (n2 * 12) xs2) (hxs2 : Calls10 xs2 l2) (hsz2 : ∀ p ∈ l2, p.2.key.size ≤ 140737488351232 ∧ p.2.val.size ≤ 140737488351232)
    (AK : Option Addr) (nk ck : Nat) (ks : List ByteArray) (tk : TypeId) (hnk : ks.length = nk) (hrk : Rd w tk AK nk (ks.map skey)) (hsk : ∀ k ∈ ks, k.size ≤ 140737488351232)
    (A3 : Option Addr) (n3 cp3 : Nat) (picks : List UInt8) (te3 : TypeId) (hn3 : picks.length = n3) (hr3 : Rd w te3 A3 n3 (bys picks)) :
    Calls Tryz.prog 10 #[.slice A n cp, .slice A2 n2 cp2, .slice AK nk ck, .slice A3 n3 cp3] w fun e w' => e = .returned (.bool true) ∧ Chg No w w' := by
  have HAW := Lib.hid (awake10_calls w)
  have HN0 := fun W => Lib.hid (eng_new30 W)
  have H1 := Lib.hid (And.intro hn (And.intro hr (And.intro hxs hsz)))
  have H2 := Lib.hid (And.intro hn2 (And.intro hr2 (And.intro hxs2 hsz2)))
  have H3 := Lib.hid (And.intro hn3 hr3)
  have HK := Lib.hid (And.intro hnk (And.intro hrk hsk))
  clear hn hr hxs hsz hn2 hr2 hxs2 hsz2 hn3 hr3 hnk hrk hsk
  by_cases hle : n ≤ 15 ∧ n2 ≤ 15 ∧ nk ≤ 20
  rotate_left
  · by_cases h20 : 15 < n
    · have hb : decide ((15 : Int) < (n : Int)) = true := by simp; omega
      have hb2 : (15 : Int) < (n : Int) := by omega
      clear hle h20
      go_enter Tryz.func10, Tryz.ntmps10
      go_wp2_with fail
      refine HAW.out.mono ?_
      rintro e w1 ⟨rfl, hc1⟩
      have HC1 := Lib.hid hc1
      clear hc1
      go_wp2_with fail
      go_ret
      exact ⟨rfl, HC1.out⟩
    · by_cases h10 : 15 < n2
      · have hb2 : ¬ (15 : Int) < (n : Int) := by omega
        have hb3 : (15 : Int) < (n2 : Int) := by omega
        clear hle h20 h10
        go_enter Tryz.func10, Tryz.ntmps10
        go_wp2_with fail
        refine HAW.out.mono ?_
        rintro e w1 ⟨rfl, hc1⟩
        have HC1 := Lib.hid hc1
        clear hc1
        go_wp2_with fail
        go_ret
        exact ⟨rfl, HC1.out⟩
      · have hb2 : ¬ (15 : Int) < (n : Int) := by omega
        have hb3 : ¬ (15 : Int) < (n2 : Int) := by omega
        have hb4 : (20 : Int) < (nk : Int) := by omega
        clear hle h20 h10
        go_enter Tryz.func10, Tryz.ntmps10
        go_wp2_with fail
        refine HAW.out.mono ?_
        rintro e w1 ⟨rfl, hc1⟩
        have HC1 := Lib.hid hc1
        clear hc1
        go_wp2_with fail
        go_ret
        exact ⟨rfl, HC1.out⟩
  obtain ⟨hl1, hl2, hl3⟩ := hle
  have hb4 : ¬ (20 : Int) < (nk : Int) := by omega
  have hb2 : ¬ (15 : Int) < (n : Int) := by omega
  have hb3 : ¬ (15 : Int) < (n2 : Int) := by omega
  go_enter Tryz.func10, Tryz.ntmps10
  go_wp2_with fail
  refine HAW.out.mono ?_
  rintro e w1 ⟨rfl, hc1⟩
  have HC1 := Lib.hid hc1
  clear hc1 HAW
  go_wp2_with fail
  refine (HN0 _).out.mono ?_
  rintro e w2 ⟨h, rfl, hd2, hc2, hf2⟩
  have HD2 := Lib.hid hd2
  have HC2 := Lib.hid (HC1.out.trans hc2)
  have HF2 : Hid (∀ k, h.foot k → w.heap.size ≤ k) := fun k hk => Nat.le_trans HC1.out.size (hf2 k hk)
  clear hd2 hc2 hf2 HN0 HC1
  go_wp2_with fail
  obtain ⟨n1, nn2, nn3, nn4, nn5⟩ := all_new 30 gLaw rfl (by decide) (fun _ => True)
  have HO := Lib.hid (Heng.opened (w0 := w) (h := h) HD2.out HF2.out HC2.out (g := gLaw) rfl (by decide) rfl (by rw [n1]; decide) (by rw [n1]; decide) nn2 nn4)
  rw [n1, show gLaw.V = .agg #[.int .i64 3, .int .i64 3, .int .i64 2, .int .i64 0] from rfl] at HO
  obtain ⟨X0, hX0⟩ : ∃ X0, X0 = Eng.opened (Dev.new 30) gLaw := ⟨_, rfl⟩
  obtain ⟨D0, hD0⟩ : ∃ D0, D0 = (Dev.new 30).stD (Eng.now (Dev.new 30)) := ⟨_, rfl⟩
  rw [← hX0, ← hD0] at HO
  rw [← hX0] at nn3
  have HX0 := Lib.hid nn3
  clear n1 nn2 nn3 nn4 nn5 hX0 hD0 HD2 HC2
  refine HO.out.mono ?_
  rintro e w4 ⟨t, rfl, h4, hc4, hall⟩
  have H4 := Lib.hid h4
  clear h4 hc4 hall HO
  rw [sbV_eq]
  go_wp2_with fail
  have a5 : Chg No w4 (w4.alloc (.cells #[.int .u64 Sb.zero.seq, .int .u64 Sb.zero.epoch, .int .u64 Sb.zero.reserved, .int .u64 Sb.zero.horizon, .int .u64 Sb.zero.gen, .bool Sb.zero.clean, .int .i64 Sb.zero.image] tSb)) := (Chg.refl No w4).alloc _
  have HP := Lib.hid (put10_calls (H4.out.chgNo a5) A n cp xs l te H1.out.1 H1.out.2.1 H1.out.2.2.1 (by omega) H1.out.2.2.2 (by omega) (fun y hy => hy.elim) (fun _ _ _ _ _ _ _ _ => True.intro) (fun _ _ _ _ _ => True.intro) 0)
  rw [show ((0 : Nat) : Int) = 0 from rfl] at HP
  clear a5 H4
  refine HP.out.mono ?_
  rintro e w6 ⟨lr, t6, X1, D1, ls1, rfl, S6⟩
  have H6 := Lib.hid S6.go.st
  have HE6 : Hid (t6.E = t.E) := S6.go.E
  have HLR : Hid (lr ≤ X1.last) := by
    have h1 : X0.last = 0 := by rw [HX0.out]; rfl
    rcases S6.lr with ⟨e1, e2⟩ | e1
    · show lr ≤ _; omega
    · show lr ≤ _; omega
  have HQ1 : Hid (∀ y, PutQ (fun _ => False) l n X0.last X1.last y → y.good = true ∧ y.ver.toNat ≤ X1.last) := by
    rintro y (hy | ⟨q1, _, q3, _⟩)
    · exact hy.elim
    · exact ⟨q1, q3⟩
  clear S6 HP
  obtain ⟨Q1, hQ1⟩ : ∃ Q1, Q1 = PutQ (fun _ => False) l n X0.last X1.last := ⟨_, rfl⟩
  rw [← hQ1] at H6 HQ1
  clear hQ1
  go_wp2_with fail
  have HW := Lib.hid (H6.out.wipe (by omega))
  obtain ⟨_, _, _, q4⟩ := H6.out.all.run.wipe (by omega)
  obtain ⟨X2, hX2⟩ : ∃ X2, X2 = X1.wipeX D1 := ⟨_, rfl⟩
  obtain ⟨D2, hD2⟩ : ∃ D2, D2 = D1.stD X1.wB := ⟨_, rfl⟩
  rw [← hX2, ← hD2, HE6.out] at HW
  rw [← hX2] at q4
  have F2 : Hid (X2.last = X1.last) := by rw [q4]; exact rfl
  clear q4 hX2 hD2
  refine HW.out.mono ?_
  rintro e w7 ⟨t7, rfl, s7⟩
  have H7 := Lib.hid s7.st
  have HE7 : Hid (t7.E = t.E) := s7.E.trans HE6.out
  clear s7 HW H6
  go_wp2_with fail
  have HP := Lib.hid (put10_calls H7.out A2 n2 cp2 xs2 l2 te2 H2.out.1 H2.out.2.1 H2.out.2.2.1 (by omega) H2.out.2.2.2 (by omega) (fun y hy => by rw [F2.out]; exact (HQ1.out y hy).2) (fun _ _ _ _ _ _ _ _ => True.intro) (fun _ _ _ _ _ => True.intro) 0)
  rw [show ((0 : Nat) : Int) = 0 from rfl, HE7.out] at HP
  refine HP.out.mono ?_
  rintro e w8 ⟨lr2, t8, X3, D3, ls3, rfl, S8⟩
  have H8 := Lib.hid S8.go.st
  have HE8 : Hid (t8.E = t.E) := S8.go.E.trans HE7.out
  have HQ3 : Hid (∀ y, PutQ Q1 l2 n2 X2.last X3.last y → y.good = true ∧ y.ver.toNat ≤ X3.last) := by
    have h9 := S8.last
    have h8 := F2.out
    rintro y (hy | ⟨q1, _, q3, _⟩)
    · exact ⟨(HQ1.out y hy).1, by have := (HQ1.out y hy).2; omega⟩
    · exact ⟨q1, q3⟩
  obtain ⟨Q3, hQ3⟩ : ∃ Q3, Q3 = PutQ Q1 l2 n2 X2.last X3.last := ⟨_, rfl⟩
  rw [← hQ3] at H8 HQ3
  clear S8 HP H7 hQ3 HQ1 F2
  go_wp2_with fail
  have HS := Lib.hid (H8.out.settle (by omega))
  obtain ⟨_, _, _, _, _, s6, _⟩ := H8.out.all.settle (by omega)
  obtain ⟨X4, hX4⟩ : ∃ X4, X4 = X3.stlX D3 := ⟨_, rfl⟩
  obtain ⟨D4, hD4⟩ : ∃ D4, D4 = X3.stlD D3 := ⟨_, rfl⟩
  rw [← hX4, ← hD4, HE8.out] at HS
  rw [← hX4] at s6
  rw [← s6] at HQ3
  clear hX4 hD4 s6
  refine HS.out.mono ?_
  rintro e w9 ⟨t9, rfl, s9⟩
  have H9 := Lib.hid s9.st
  have HE9 : Hid (t9.E = t.E) := s9.E.trans HE8.out
  clear s9 HS H8
  go_wp2_with fail
  have HRM := Lib.hid (H9.out.rebase.remove (by omega) AK nk ck ks HK.out.1 tk (HK.out.2.1.chg H9.out.chg (fun _ _ _ _ h => h)) (by omega) HK.out.2.2)
  have RID := Lib.hid (H9.out.all.rid_ (by omega) ks)
  obtain ⟨X5, hX5⟩ : ∃ X5, X5 = (X4.rm D4 ks).2.1 := ⟨_, rfl⟩
  obtain ⟨D5, hD5⟩ : ∃ D5, D5 = (X4.rm D4 ks).2.2 := ⟨_, rfl⟩
  rw [← hX5, ← hD5, HE9.out] at HRM
  rw [← hX5] at RID
  have HQ5 : Hid (∀ y, (Q3 y ∧ X4.may y.key = true) → y.good = true ∧ y.ver.toNat ≤ X4.last ∧ X4.may y.key = true) := fun y hy => ⟨(HQ3.out y hy.1).1, (HQ3.out y hy.1).2, hy.2⟩
  obtain ⟨Q5, hQ5⟩ : ∃ Q5 : Item → Prop, Q5 = (fun y => Q3 y ∧ X4.may y.key = true) := ⟨_, rfl⟩
  rw [← hQ5] at HRM
  have HQ6 : Hid (∀ y, Q5 y → y.good = true ∧ y.ver.toNat ≤ X4.last ∧ X4.may y.key = true) := fun y hy => HQ5.out y (by rw [hQ5] at hy; exact hy)
  clear hX5 hD5 HQ5 hQ5
  refine HRM.out.mono ?_
  rintro e w10 ⟨t10, rfl, s10⟩
  have H10 := Lib.hid s10.st
  clear s10 HRM H9 HQ3
  go_wp2_with fail
  have HFF : Hid (∀ k, h.foot k → w.heap.size ≤ k) := fun k hk => H10.out.far k (.inl hk)
  have HCR := Lib.hid (crash10 H10.out.dev HFF.out H10.out.chg A3 n3 cp3 picks te3 H3.out.1 H3.out.2)
  refine HCR.out.mono ?_
  rintro e w11 ⟨rfl, hd11, hc11, hf11⟩
  have HD11 := Lib.hid hd11
  have HC11 := Lib.hid hc11
  have HALL := Lib.hid H10.out.all
  clear hd11 hc11 hf11 HCR H10
  go_wp2_with fail
  refine (on10 HD11.out HFF.out HC11.out).mono ?_
  rintro e w12 ⟨rfl, hd12, hc12, hf12⟩
  have HD12 : Hid (DevAt w12 h (D5.back picks)) := hd12
  have HC12 := Lib.hid hc12
  clear hd12 hc12 hf12 HD11 HC11
  go_wp2_with fail
  have HO := Lib.hid (open10 HALL.out (by omega) picks HD12.out HFF.out HC12.out)
  rw [show gLaw.V = .agg #[.int .i64 3, .int .i64 3, .int .i64 2, .int .i64 0] from rfl] at HO
  refine HO.out.mono ?_
  rintro e w13 ⟨t13, b13, rfl, h13⟩
  have H13 := Lib.hid h13
  clear h13 HO HD12 HC12
  obtain ⟨Y, hY⟩ : ∃ Y, Y = Eng.opened (D5.back picks) gLaw := ⟨_, rfl⟩
  obtain ⟨E, hE⟩ : ∃ E, E = (D5.back picks).stD (Eng.now (D5.back picks)) := ⟨_, rfl⟩
  rw [← hY, ← hE] at H13
  clear hY hE
  have HG : Hid (∀ k ∈ ks, Y.getE E k = 5) := by
    intro k hk
    rcases get_one Y E k with ⟨_, e2⟩ | ⟨e1, _⟩
    · exfalso
      have h9 := Aft.rid HALL.out H13.out.aft H13.out.eng.lg.ok RID.out (fun y hy _ => (HQ6.out y hy).2.2) hk e2
      have h8 := (HQ6.out _ (Aft.told HALL.out H13.out.aft H13.out.eng.lg.ok e2).2.1).2.1
      omega
    · exact e1
  rw [sbV_eq]
  go_wp2_with fail
  go_loopg [14] nk (fun g v14 wr => ∃ k : Nat, v14 = .int .i64 k ∧ k ≤ nk ∧ nk - k = g ∧ Hid (Haft w h t13 gLaw Q5 (fun _ => True) X5 _ Y E wr))
  case atStart => exact ⟨0, rfl, by omega, by omega, H13.out⟩
  case round =>
    obtain ⟨k, rfl, hk, hg, HH⟩ := hrel
    by_cases hkm : k < nk
    · obtain ⟨key, hkey⟩ : ∃ key, ks[k]? = some key := ⟨_, List.getElem?_eq_getElem (by rw [HK.out.1]; exact hkm)⟩
      have hin := List.mem_of_getElem? hkey
      obtain ⟨gy, oy, eA, hgy, hcy⟩ := (HK.out.2.1.chg HH.out.chg (fun _ _ _ _ h => h)).at_ (j := k) hkm
      subst eA
      have d0 : wr.cell? ⟨gy, oy + k, none⟩ = some (.string key) := hcy _ _ (by rw [List.getElem?_map, hkey]; rfl)
      have HT := Lib.hid (HH.out.get HALL.out (fun y hy => (HQ6.out y hy).1) key (HK.out.2.2 key hin))
      rw [HG.out key hin] at HT
      clear hcy hin hkey
      go_wp2_with fail
      refine HT.out.mono ?_
      rintro e w14 ⟨rfl, h14⟩
      have HH14 := Lib.hid h14
      clear h14 HT
      obtain ⟨x, hx⟩ : ∃ x, x = Y.get E key := ⟨_, rfl⟩
      rw [← hx]
      clear hx
      go_wp2_with fail
      go_roundg (nk - (k + 1))
      case measure => omega
      case rel => exact ⟨k + 1, by go_num, by omega, rfl, HH14.out.chgNo ((Chg.refl No w14).alloc _)⟩
    · obtain rfl : nk = k := by omega
      go_wp2_with fail
      go_ret
      exact ⟨rfl, HH.out.chg⟩
end Go.Proofs.YtplpbbdakihnfaaGreat
end

section
namespace Go.Proofs.YtplpbbdakihnfaaGreat
open Go.RowKit Go.ChangeShapes Go.WideShapes Go.Deep
section
variable {H : Type} {enc : TypeId × Value → H} {w : World} {base : Nat} {spare : Nat → Bool} {held : Bool}
theorem str_cells : Tryz.prog.cellsOf 9 = 1 := by kernel_rfl
set_option maxRecDepth 100000 in
theorem open_strings {b0 : Nat} {v : Value} {d : DataW H} {p : List MemPlace} (hv : Value.okWide Tryz.prog w .any b0 49 v) (h : DataW.Trod enc Tryz.prog w base (fun _ => true) held 49 v d p) (hs : ∀ n ∈ d.weights Tryz.prog 49, n ≤ reachBytes) :
    ∃ (A : Option Addr) (n c : Nat) (l : List ByteArray) (t : TypeId), v = .slice A n c ∧ l.length = n ∧ n ≤ c ∧ Rd w t A n (l.map skey) ∧ ∀ k ∈ l, k.size ≤ reachBytes := by
  obtain ⟨A, n, c, rfl⟩ := okWide_slice Tryz.underlying49 hv
  obtain ⟨fuel, hf⟩ := h
  rcases open_strs Tryz.underlying49 Tryz.underlying9 str_cells hf with ⟨hcs, _⟩ | ⟨a, len, cap, m, Sx, hcs, _, hl, hm, hmm, hx, hcell⟩
  · simp only [Value.cells, List.cons.injEq, and_true, Value.slice.injEq] at hcs
    obtain ⟨rfl, rfl, rfl⟩ := hcs
    exact ⟨none, 0, 0, [], tItem, rfl, rfl, Nat.le_refl _, Rd.nil _ _ _, fun x hx => by cases hx⟩
  · simp only [Value.cells, List.cons.injEq, and_true, Value.slice.injEq] at hcs
    obtain ⟨rfl, rfl, rfl⟩ := hcs
    simp only [if_true] at hmm
    subst hmm
    have hd : d = .slice ((List.range n).map fun i => .lit (.string (Sx i).data.toList)) ((List.range (m - n)).map fun j => .lit (.string (Sx (n + j)).data.toList)) := congrArg Prod.fst hx
    subst hd
    have hstr : ∀ k ∈ (List.range n).map Sx, k.size ≤ reachBytes := by
      intro k hk
      obtain ⟨i, hi1, rfl⟩ := List.mem_map.1 hk
      have h9 := hs (Sx i).size (by
        simp only [DataW.weights, Tryz.underlying49, List.mem_cons, List.mem_append]
        refine .inr (.inl (weights_all (d := .lit (.string (Sx i).data.toList)) (List.mem_map_of_mem (f := fun i => (DataW.lit (.string (Sx i).data.toList) : DataW H)) hi1) _ ?_))
        simp [DataW.weights])
      exact h9
    by_cases hn : n = 0
    · subst hn
      exact ⟨some a, 0, m, [], tItem, rfl, rfl, hl, Rd.nil _ _ _, fun x hx => by cases hx⟩
    · obtain ⟨g, off, spot⟩ := a
      have hspot : spot = none := by
        have := (hcell 0 (by omega)).1
        simpa [Addr.add] using World.cell?_spot this
      subst hspot
      have h00 := (hcell 0 (by omega)).1
      obtain ⟨cur, t, fz, hg⟩ : ∃ cur t fz, w.heap[g]? = some (.cells cur t fz) := by
        unfold World.cell? at h00
        simp only [Addr.add, if_true] at h00
        split at h00
        · rename_i c t fz hh; exact ⟨c, t, fz, hh⟩
        · cases h00
      refine ⟨some ⟨g, off, none⟩, n, m, (List.range n).map Sx, t, rfl, by simp, hl, ⟨by simp, fun _ => ⟨g, off, cur, fz, rfl, hg, ?_⟩⟩, hstr⟩
      intro j u hu
      rw [List.map_map, List.getElem?_map] at hu
      have hjn : j < n := by
        rcases Nat.lt_or_ge j n with h9 | h9
        · exact h9
        · rw [List.getElem?_eq_none (by simpa using h9)] at hu; cases hu
      rw [List.getElem?_range hjn] at hu
      have hc := (hcell j (by omega)).1
      rw [add_at, cell_of_row w g _ cur t fz hg] at hc
      rw [hc]; exact hu
end
end Go.Proofs.YtplpbbdakihnfaaGreat
end
