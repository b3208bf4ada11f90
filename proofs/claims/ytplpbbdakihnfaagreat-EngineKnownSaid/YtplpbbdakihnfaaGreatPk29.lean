/- Packed texts: EngKn. -/
import Derived.Test.YtplpbbdakihnfaaGreatPk28
import Derived.Test.YtplpbbdakihnfaaGreatPk08

/- EngineKnown, walked. -/
section
namespace Go.Proofs.YtplpbbdakihnfaaGreat
open Go.RowKit
attribute [local go_sem ↓] Go.wp_at_zero Go.wp_at_succ
set_option linter.unusedSimpArgs false
set_option linter.unusedVariables false

theorem eng_new10 (w : World) : Calls Tryz.prog 13 #[.int .i64 10] w fun e w' => ∃ h : DevH, e = .returned (.tuple #[.pointer (some ⟨h.d, 0, none⟩), .int .i64 0]) ∧ DevAt w' h (Dev.new 10) ∧ Chg No w w' ∧ ∀ k, h.foot k → w.heap.size ≤ k := new_calls 10 w (by decide) (by decide)
theorem eng_new11 (w : World) : Calls Tryz.prog 13 #[.int .i64 11] w fun e w' => ∃ h : DevH, e = .returned (.tuple #[.pointer (some ⟨h.d, 0, none⟩), .int .i64 0]) ∧ DevAt w' h (Dev.new 11) ∧ Chg No w w' ∧ ∀ k, h.foot k → w.heap.size ≤ k := new_calls 11 w (by decide) (by decide)
def zs (n : Nat) : ByteArray := ⟨(List.replicate n (0 : UInt8)).toArray⟩
theorem zs_size (n : Nat) : (zs n).size = n := by simp [zs, ByteArray.size]
def knBig : Item := { key := zs 250, val := zs 1024, flags := 0, exp := 0, ver := 1 }
theorem knBig_good : knBig.good = true ∧ knBig.size = 1306 := by
  unfold Item.good Item.size knBig
  simp only [zs_size]
  exact ⟨by decide, by decide⟩
theorem mk_bytes (n : Nat) (hn : n ≤ 100000) (W : World) : (Instr.makeSlice tBytes (.int .i64 n) (.int .i64 n)).run Tryz.prog W = .ok (.slice (some ⟨W.heap.size, 0, none⟩) n n) (W.alloc (.cells (mk n (.int .u8 0)) tU8)) := run_mk W Tryz.underlying40 ti_u8 rfl n (by omega) (by omega)
theorem cv_bytes {n : Nat} {W : World} {g : Nat} (h : Blk W g tU8 (mk n (.int .u8 0))) : (convert tBytes 9 (.slice (some ⟨g, 0, none⟩) n n)).run Tryz.prog W = .ok (.string (zs n)) W := by
  refine run_b2s W (some ⟨g, 0, none⟩) n n (List.replicate n 0) Tryz.underlying40 Tryz.underlying5 Tryz.underlying9 tU8 ?_
  have := Rd.ofBlk (k := n) h (by simp [mk])
  simpa [mk, bys] using this
def knZ : ByteArray := ⟨#[122, 101, 98, 114, 97]⟩
theorem kn_set {i : Nat} (hi : i < 3) : (List.replicate gSmall.b ([] : List Item)).set i (rid [] knBig.key) = List.replicate gSmall.b [] := by
  rcases (by omega : i = 0 ∨ i = 1 ∨ i = 2) with rfl | rfl | rfl <;> rfl
set_option maxRecDepth 100000 in
set_option maxHeartbeats 8000000 in
theorem eknown_calls (w : World) : Calls Tryz.prog 3 #[] w fun e w' => e = .returned (.bool true) ∧ Chg No w w' := by
  have HAW := Lib.hid (awake10_calls w)
  have HN0 := fun W => Lib.hid (eng_new10 W)
  have HN1 := fun W => Lib.hid (eng_new11 W)
  have HSM := fun W => Lib.hid (small_calls W)
  have hmk1 : ∀ W : World, (Instr.makeSlice tBytes (.int .i64 250) (.int .i64 250)).run Tryz.prog W = .ok (.slice (some ⟨W.heap.size, 0, none⟩) 250 250) (W.alloc (.cells (mk 250 (.int .u8 0)) tU8)) := mk_bytes 250 (by decide)
  have hmk2 : ∀ W : World, (Instr.makeSlice tBytes (.int .i64 1024) (.int .i64 1024)).run Tryz.prog W = .ok (.slice (some ⟨W.heap.size, 0, none⟩) 1024 1024) (W.alloc (.cells (mk 1024 (.int .u8 0)) tU8)) := mk_bytes 1024 (by decide)
  have hcv1 : ∀ W : World, (convert tBytes 9 (.slice (some ⟨W.heap.size, 0, none⟩) 250 250)).run Tryz.prog (W.alloc (.cells (mk 250 (.int .u8 0)) tU8)).drew = .ok (.string (zs 250)) (W.alloc (.cells (mk 250 (.int .u8 0)) tU8)).drew := fun W => cv_bytes (Blk.drew ((Blk.new W _ _)))
  have hcv2 : ∀ W : World, (convert tBytes 9 (.slice (some ⟨W.heap.size, 0, none⟩) 1024 1024)).run Tryz.prog (W.alloc (.cells (mk 1024 (.int .u8 0)) tU8)).drew = .ok (.string (zs 1024)) (W.alloc (.cells (mk 1024 (.int .u8 0)) tU8)).drew := fun W => cv_bytes (Blk.drew ((Blk.new W _ _)))
  have hcv3 : ∀ W : World, (convert tBytes 9 (.slice (some ⟨W.heap.size, 0, none⟩) 250 250)).run Tryz.prog ((W.alloc (.cells (mk 250 (.int .u8 0)) tU8)).alloc (.cells (mk 1024 (.int .u8 0)) tU8)).drew = .ok (.string (zs 250)) ((W.alloc (.cells (mk 250 (.int .u8 0)) tU8)).alloc (.cells (mk 1024 (.int .u8 0)) tU8)).drew := fun W => cv_bytes (Blk.drew ((Blk.new W _ _).alloc _))
  have hcv4 : ∀ W : World, (convert tBytes 9 (.slice (some ⟨W.heap.size, 0, none⟩) 1024 1024)).run Tryz.prog ((W.alloc (.cells (mk 1024 (.int .u8 0)) tU8)).alloc (.cells (mk 250 (.int .u8 0)) tU8)).drew = .ok (.string (zs 1024)) ((W.alloc (.cells (mk 1024 (.int .u8 0)) tU8)).alloc (.cells (mk 250 (.int .u8 0)) tU8)).drew := fun W => cv_bytes (Blk.drew ((Blk.new W _ _).alloc _))
  have hcv5 : ∀ W : World, (convert tBytes 9 (.slice (some ⟨W.heap.size + 1, 0, none⟩) 1024 1024)).run Tryz.prog ((W.alloc (.cells (mk 250 (.int .u8 0)) tU8)).alloc (.cells (mk 1024 (.int .u8 0)) tU8)).drew = .ok (.string (zs 1024)) ((W.alloc (.cells (mk 250 (.int .u8 0)) tU8)).alloc (.cells (mk 1024 (.int .u8 0)) tU8)).drew := fun W => cv_bytes (Blk.drew (by have := Blk.new (W.alloc (.cells (mk 250 (.int .u8 0)) tU8)) tU8 (mk 1024 (.int .u8 0)); rw [World.size_alloc] at this; exact this))
  have hcv6 : ∀ W : World, (convert tBytes 9 (.slice (some ⟨W.heap.size + 1, 0, none⟩) 250 250)).run Tryz.prog ((W.alloc (.cells (mk 1024 (.int .u8 0)) tU8)).alloc (.cells (mk 250 (.int .u8 0)) tU8)).drew = .ok (.string (zs 250)) ((W.alloc (.cells (mk 1024 (.int .u8 0)) tU8)).alloc (.cells (mk 250 (.int .u8 0)) tU8)).drew := fun W => cv_bytes (Blk.drew (by have := Blk.new (W.alloc (.cells (mk 1024 (.int .u8 0)) tU8)) tU8 (mk 250 (.int .u8 0)); rw [World.size_alloc] at this; exact this))
  go_enter Tryz.func3, Tryz.ntmps3
  go_wp2_with fail
  refine HAW.out.mono ?_
  rintro e w0 ⟨rfl, hc0⟩
  have HC0 := Lib.hid hc0
  clear hc0 HAW
  go_wp2_with fail
  refine (HN0 _).out.mono ?_
  rintro e w1 ⟨h, rfl, hd1, hc1, hf1⟩
  have HD1 := Lib.hid hd1
  have HC1 := Lib.hid (HC0.out.trans hc1)
  clear hd1 hc1 hf1 HN0 HC0
  go_wp2_with fail
  refine (HSM _).out.mono ?_
  rintro e w2 ⟨rfl, hc2⟩
  have HD2 := Lib.hid ((DevN.chgNo HD1.out hc2).at_)
  have HC2 := Lib.hid (HC1.out.trans hc2)
  clear hc2 HC1 HD1
  go_wp2_with fail
  refine (eopen_few HD2.out gSmall rfl (by decide)).mono ?_
  rintro e w3 ⟨rfl, hc3⟩
  have HC3 := Lib.hid (HC2.out.trans hc3)
  clear hc3 HC2 HD2
  rw [sbV_eq]
  go_wp2_with fail
  refine (eopen_zero _ h.d).mono ?_
  rintro e w4 ⟨rfl, hc4⟩
  have HC4 : Hid (Chg No w w4) := (HC3.out.alloc _).trans hc4
  clear hc4 HC3
  rw [sbV_eq]
  go_wp2_with fail
  refine (HN1 _).out.mono ?_
  rintro e w5 ⟨h1, rfl, hd5, hc5, hf5⟩
  have HD5 := Lib.hid hd5
  have HC5 : Hid (Chg No w w5) := (HC4.out.alloc _).trans hc5
  have HF5 : Hid (∀ k, h1.foot k → w.heap.size ≤ k) := fun k hk => by have h9 := hf5 k hk; have h8 := HC4.out.size; simp at h9; omega
  clear hd5 hc5 hf5 HN1 HC4
  go_wp2_with fail
  refine (HSM _).out.mono ?_
  rintro e w6 ⟨rfl, hc6⟩
  obtain ⟨n1, n2, n3, n4, n5⟩ := all_new 11 gSmall rfl (by decide) (fun _ => True)
  have HO := Lib.hid (Heng.opened (w0 := w) (h := h1) ((DevN.chgNo HD5.out hc6).at_) HF5.out (HC5.out.trans hc6) (g := gSmall) rfl (by decide) rfl (by rw [n1]; decide) (by rw [n1]; decide) n2 n4)
  rw [n1] at HO
  obtain ⟨X0, hX0⟩ : ∃ X0, X0 = Eng.opened (Dev.new 11) gSmall := ⟨_, rfl⟩
  obtain ⟨D0, hD0⟩ : ∃ D0, D0 = (Dev.new 11).stD (Eng.now (Dev.new 11)) := ⟨_, rfl⟩
  rw [← hX0, ← hD0] at HO
  rw [← hX0] at n3
  have HX0 := Lib.hid n3
  clear hc6 n1 n2 n3 n4 n5 hX0 hD0 HD5 HC5 HSM
  go_wp2_with fail
  refine HO.out.mono ?_
  rintro e w7 ⟨t, rfl, h7, _, _⟩
  have H7 := Lib.hid h7
  clear h7 HO
  rw [sbV_eq]
  go_wp2_with fail
  have H8 := Lib.hid (H7.out.chgNo ((Chg.refl No w7).alloc (.cells #[.int .u64 Sb.zero.seq, .int .u64 Sb.zero.epoch, .int .u64 Sb.zero.reserved, .int .u64 Sb.zero.horizon, .int .u64 Sb.zero.gen, .bool Sb.zero.clean, .int .i64 Sb.zero.image] tSb)))
  have HB := Lib.hid (H8.out.bad Item.zero (by decide) (by decide) (.inl rfl))
  rw [show itemV Item.zero = .agg #[.string ⟨#[]⟩, .string ⟨#[]⟩, .int .u32 0, .int .i64 0, .int .u64 0] from rfl, show (if Item.zero.good = false then (1 : Int) else 2) = 1 from rfl] at HB
  refine HB.out.mono ?_
  rintro e w9 ⟨rfl, hc9⟩
  have H9 := Lib.hid (H8.out.chgNo hc9)
  clear hc9 HB H8 H7
  go_wp2_with fail
  have hno : X0.B.no knBig.key < 3 := by have h9 := H9.out.all.bks.bk.no_ knBig.key; rw [List.length_replicate] at h9; exact h9
  have hl9 : (List.replicate gSmall.b ([] : List Item))[X0.B.no knBig.key]? = some [] := by rw [List.getElem?_replicate]; exact if_pos hno
  have HG := fun W => Lib.hid (fun hc : Chg No w9 W => (H9.out.chgNo hc).great (by decide) (x := knBig) knBig_good.1 (by rw [knBig_good.2]; decide) (by rw [knBig_good.2]; decide) (fun h => h) (fun _ _ _ => True.intro) hl9)
  rw [show itemV knBig = .agg #[.string (zs 250), .string (zs 1024), .int .u32 0, .int .i64 0, .int .u64 1] from rfl] at HG
  have HZ : Hid ((X0.pgX D0 knBig).get (X0.pgD D0 knBig) knZ = Item.zero ∧ (X0.pgX D0 knBig).getE (X0.pgD D0 knBig) knZ = 5) := by
    obtain ⟨_, _, _, q4, q5⟩ := H9.out.all.great (by decide) (x := knBig) knBig_good.1 (by rw [knBig_good.2]; decide) (fun h => h) (fun _ _ _ => True.intro) hl9
    have hne : knZ ≠ knBig.key := by
      intro e
      have := congrArg ByteArray.size e
      rw [show knBig.key = zs 250 from rfl, zs_size] at this
      exact absurd this (by decide)
    have hv : (X0.pgX D0 knBig).G.view knZ = none := by
      rcases q4 knZ hne with h9 | h9
      · exact h9
      · show (X0.G.put D0 knBig).G.view knZ = none
        rw [h9, HX0.out]; rfl
    rw [kn_set hno] at q5
    have hnz : (X0.pgX D0 knBig).B.no knZ < 3 := by have h9 := q5.bks.bk.no_ knZ; rw [List.length_replicate] at h9; exact h9
    have h1 := one_of q5 (key := knZ) (l := []) (by rw [List.getElem?_replicate]; exact if_pos hnz) hv
    have h2 : (X0.pgX D0 knBig).one (X0.pgD D0 knBig) knZ = none := h1
    unfold Eng.get Eng.getE
    rw [h2]
    exact ⟨rfl, rfl⟩
  clear hno hl9
  go_region_with
    ((go_at_call 16
      refine ((HG _).out (by (repeat (first | (with_reducible exact Chg.refl _ _) | (with_reducible assumption) | (with_reducible refine Chg.drewN ?_ _) | (with_reducible refine Chg.drew ?_) | (with_reducible refine Chg.alloc ?_ _) | (with_reducible refine Chg.setCell ?_ (by first | (left; simp [DevH.foot]; done) | (right; simp; done) | (right; simp; omega)) _))))).mono ?_
      rintro e w10 ⟨t10, rfl, s10⟩))
  all_goals
    have H10 := Lib.hid s10.st
    have HE10 : Hid (t10.E = t.E) := s10.E
    have hQ : ∀ x : Item, (False ∨ x = knBig) → x.good = true := fun x hx => hx.elim (fun h => h.elim) (fun e => by rw [e]; exact knBig_good.1)
    have HGT := Lib.hid (H10.out.get hQ knZ (by decide))
    rw [HZ.out.1, HZ.out.2, HE10.out, show itemV Item.zero = .agg #[.string ⟨#[]⟩, .string ⟨#[]⟩, .int .u32 0, .int .i64 0, .int .u64 0] from rfl] at HGT
    clear s10 hQ HG H9
    clear hmk1 hmk2 hcv1 hcv2 hcv3 hcv4 hcv5 hcv6
    go_wp2_with fail
    refine HGT.out.mono ?_
    rintro e w11 ⟨rfl, s11⟩
    have H11 := Lib.hid s11.st
    clear s11 HGT H10
    go_wp2_with fail
    have H12 := Lib.hid (H11.out.chgNo ((Chg.refl No w11).alloc (.cells #[.string ⟨#[]⟩, .string ⟨#[]⟩, .int .u32 0, .int .i64 0, .int .u64 0] tItem)))
    refine (epages_bad _).mono ?_
    rintro e w13 ⟨rfl, hc13⟩
    have H13 := Lib.hid (H12.out.chgNo hc13)
    clear hc13 H12 H11
    go_wp2_with fail
    have HR := Lib.hid (H13.out.remove (by decide) none 0 0 [] rfl 9 (Rd.nil _ _ _) (by decide) (fun k hk => by cases hk))
    rw [HE10.out] at HR
    refine HR.out.mono ?_
    rintro e w14 ⟨t14, rfl, s14⟩
    have HC14 := Lib.hid s14.st.chg
    clear s14 HR H13
    go_wp2_with fail
    go_ret
    exact ⟨rfl, HC14.out⟩
end Go.Proofs.YtplpbbdakihnfaaGreat
end
