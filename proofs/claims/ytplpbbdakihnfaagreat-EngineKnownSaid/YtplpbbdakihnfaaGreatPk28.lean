/- Packed texts: EngAv, EngX. -/
import Derived.Test.YtplpbbdakihnfaaGreatPk27
import Derived.Test.YtplpbbdakihnfaaGreatPk24
import Derived.Shelf.SlSortCmp.QuietGrown

/- Layer 10's awake, walked. -/
section
namespace Go.Proofs.YtplpbbdakihnfaaGreat
open Go.RowKit
attribute [local go_sem ↓] Go.wp_at_zero Go.wp_at_succ
set_option linter.unusedSimpArgs false
set_option linter.unusedVariables false

set_option maxRecDepth 100000 in
set_option maxHeartbeats 8000000 in
theorem awake10_calls (w : World) : Calls Tryz.prog 12 #[] w fun e w' => e = .returned (.bool true) ∧ Chg No w w' := by
  have HN := fun W => Lib.hid (eng_new12 W)
  have HSM := fun W => Lib.hid (small_calls W)
  go_enter Tryz.func12, Tryz.ntmps12
  go_wp2_with fail
  refine (HN _).out.mono ?_
  rintro e w1 ⟨h, rfl, hd1, hc1, hf1⟩
  have HD1 := Lib.hid hd1
  have HC1 := Lib.hid hc1
  have HF1 := Lib.hid hf1
  clear hd1 hc1 hf1 HN
  go_wp2_with fail
  refine (HSM _).out.mono ?_
  rintro e w2 ⟨rfl, hc2⟩
  have hf0 : ∀ k, h.foot k → w.heap.size ≤ k := HF1.out
  obtain ⟨n1, n2, n3, n4, n5⟩ := all_new 12 gSmall rfl (by decide) (fun _ => True)
  have HO := Lib.hid (Heng.opened (w0 := w) (h := h) ((DevN.chgNo HD1.out hc2).at_) hf0 (HC1.out.trans hc2) (g := gSmall) rfl (by decide) rfl (by rw [n1]; decide) (by rw [n1]; decide) n2 n4)
  rw [n1] at HO
  obtain ⟨X0, hX0⟩ : ∃ X0, X0 = Eng.opened (Dev.new 12) gSmall := ⟨_, rfl⟩
  obtain ⟨D0, hD0⟩ : ∃ D0, D0 = (Dev.new 12).stD (Eng.now (Dev.new 12)) := ⟨_, rfl⟩
  rw [← hX0, ← hD0] at HO
  rw [← hX0] at n3
  have HX0 := Lib.hid n3
  clear hc2 n1 n2 n3 n4 n5 hX0 hD0 hf0
  go_wp2_with fail
  refine HO.out.mono ?_
  rintro e w3 ⟨t, rfl, h3, _, _⟩
  have H3 := Lib.hid h3
  clear h3 HO
  rw [sbV_eq]
  go_wp2_with fail
  have L4 := Lib.hid (Loc10.new H3.out tSb #[.int .u64 Sb.zero.seq, .int .u64 Sb.zero.epoch, .int .u64 Sb.zero.reserved, .int .u64 Sb.zero.horizon, .int .u64 Sb.zero.gen, .bool Sb.zero.clean, .int .i64 Sb.zero.image])
  have H4 := Lib.hid (H3.out.chgNo ((Chg.refl No w3).alloc (.cells #[.int .u64 Sb.zero.seq, .int .u64 Sb.zero.epoch, .int .u64 Sb.zero.reserved, .int .u64 Sb.zero.horizon, .int .u64 Sb.zero.gen, .bool Sb.zero.clean, .int .i64 Sb.zero.image] tSb)))
  obtain ⟨bb, hbb⟩ : ∃ bb, bb = w3.heap.size := ⟨_, rfl⟩
  rw [← hbb] at L4 ⊢
  clear hbb H3
  have HV := Lib.hid (H4.out.version (by decide))
  have hv : ((X0.last + 1 : Nat) : Int) = 1 := by rw [HX0.out]; rfl
  rw [hv] at HV
  obtain ⟨v1, v2, v3, v4, v5, v6, v7, v8, v9, v10, v11, v12⟩ := H4.out.all.run.version (by decide)
  obtain ⟨X1, hX1⟩ : ∃ X1, X1 = X0.verX D0 := ⟨_, rfl⟩
  obtain ⟨D1, hD1⟩ : ∃ D1, D1 = X0.verD D0 := ⟨_, rfl⟩
  rw [← hX1, ← hD1] at HV
  have F1 : Hid (X1.last = 1 ∧ X1.G = nolog gSmall ∧ X1.blk.horizon = 0 ∧ X1.blk.epoch = 1 ∧ X1.blk.reserved = 64 ∧ X1.J.marks = []) := by
    rw [hX1]
    refine ⟨by rw [v5, HX0.out]; rfl, by rw [v8, HX0.out]; rfl, by rw [v9, HX0.out]; rfl, by rw [v11, HX0.out]; rfl, by rw [v12, HX0.out]; rfl, by rw [v6, HX0.out]; rfl⟩
  clear v1 v2 v3 v4 v5 v6 v7 v8 v9 v10 v11 v12 hX1 hD1 hv HX0
  refine HV.out.mono ?_
  rintro e w5 ⟨rfl, s5⟩
  have L5 := Lib.hid (s5.keep L4.out)
  have H5 := Lib.hid s5.st
  clear s5 HV L4 H4
  go_wp2_with fail
  have hno : X1.B.no aw1.key < 3 := by have h9 := H5.out.all.bks.bk.no_ aw1.key; rw [List.length_replicate] at h9; exact h9
  have hl5 : (List.replicate gSmall.b ([] : List Item))[X1.B.no aw1.key]? = some [] := by rw [List.getElem?_replicate]; exact if_pos hno
  have a6 : Chg No w5 (w5.alloc (.cells #[.string ⟨#[97]⟩, .string ⟨#[49]⟩, .int .u32 0, .int .i64 0, .int .u64 1] tItem)) := (Chg.refl No w5).alloc _
  have LX6 := Lib.hid (Loc10.new H5.out tItem #[.string ⟨#[97]⟩, .string ⟨#[49]⟩, .int .u32 0, .int .i64 0, .int .u64 1])
  have L6 := Lib.hid (L5.out.chgNo a6)
  have HP := Lib.hid ((H5.out.chgNo a6).small (by decide) (x := aw1) (by rfl) (by decide) (fun h => h) (fun _ _ _ => True.intro) hl5)
  rw [show itemV aw1 = .agg #[.string ⟨#[97]⟩, .string ⟨#[49]⟩, .int .u32 0, .int .i64 0, .int .u64 1] from rfl, pleft_one (by decide)] at HP
  obtain ⟨q1, q2, q3, q4, q5⟩ := H5.out.all.small (by decide) (x := aw1) (by rfl) (by decide) (fun h => h) (fun _ _ _ => True.intro) hl5
  have hB2 : (X1.psX D1 aw1).B.no aw1.key = X1.B.no aw1.key := by rw [q4]; exact add_no X1.B aw1 aw1.key
  rw [← hB2] at HP
  obtain ⟨X2, hX2⟩ : ∃ X2, X2 = X1.psX D1 aw1 := ⟨_, rfl⟩
  obtain ⟨D2, hD2⟩ : ∃ D2, D2 = X1.psD D1 aw1 := ⟨_, rfl⟩
  rw [← hX2, ← hD2] at HP
  have F2 : Hid (X2.last = 1 ∧ X2.G = nolog gSmall ∧ X2.blk = X1.blk ∧ X2.J = X1.J) := by
    rw [hX2, q4]
    exact ⟨F1.out.1, by show X1.G.drop aw1.key = _; rw [F1.out.2.1]; rfl, rfl, rfl⟩
  clear q1 q2 q3 q4 q5 hB2 hX2 hD2 hno hl5 a6 H5 L5
  obtain ⟨bx, hbx⟩ : ∃ bx, bx = w5.heap.size := ⟨_, rfl⟩
  rw [← hbx] at LX6 ⊢
  clear hbx
  refine HP.out.mono ?_
  rintro e w7 ⟨rfl, s7⟩
  have L7 := Lib.hid (s7.keep L6.out)
  have LX7 := Lib.hid (s7.keep LX6.out)
  have H7 := Lib.hid s7.st
  clear s7 HP L6 LX6
  have hQ : ∀ x : Item, (False ∨ x = aw1) → x.good = true := fun x hx => hx.elim (fun h => h.elim) (fun e => by rw [e]; rfl)
  have HQ := Lib.hid hQ
  clear hQ
  go_wp2_with fail
  have hcn : X2.counts aw1 = true := by
    unfold Eng.counts
    rw [F2.out.2.2.1, F1.out.2.2.1, F2.out.2.2.2]
    unfold Jn.gone
    rw [F1.out.2.2.2.2.2]
    rfl
  obtain ⟨t1, t2, t3⟩ := aw_told H7.out.all F2.out.2.1
  rw [if_pos hcn] at t1 t3
  have HG := Lib.hid (H7.out.get HQ.out aw1.key (by decide))
  have hg1 : X2.get D2 aw1.key = aw1 ∧ X2.getE D2 aw1.key = 0 := by unfold Eng.get Eng.getE; rw [t1]; exact ⟨rfl, rfl⟩
  rw [hg1.1, hg1.2, show itemV aw1 = .agg #[.string ⟨#[97]⟩, .string ⟨#[49]⟩, .int .u32 0, .int .i64 0, .int .u64 1] from rfl] at HG
  have T2 := Lib.hid t2
  have T3 := Lib.hid t3
  clear t1 t2 t3 hg1 hcn
  refine HG.out.mono ?_
  rintro e w8 ⟨rfl, s8⟩
  have L8 := Lib.hid (s8.keep L7.out)
  have LX8 := Lib.hid (s8.keep LX7.out)
  have H8 := Lib.hid s8.st
  clear s8 HG L7 LX7 H7
  go_wp2_with fail
  have a9 : Chg No w8 (w8.alloc (.cells #[.string ⟨#[97]⟩, .string ⟨#[49]⟩, .int .u32 0, .int .i64 0, .int .u64 1] tItem)) := (Chg.refl No w8).alloc _
  have LY9 := Lib.hid (Loc10.new H8.out tItem #[.string ⟨#[97]⟩, .string ⟨#[49]⟩, .int .u32 0, .int .i64 0, .int .u64 1])
  have HM := Lib.hid ((H8.out.chgNo a9).may aw1.key (by decide))
  rw [T2.out] at HM
  obtain ⟨bY, hbY⟩ : ∃ bY, bY = w8.heap.size := ⟨_, rfl⟩
  rw [← hbY] at LY9 ⊢
  refine HM.out.mono ?_
  rintro e w9 ⟨rfl, hc9⟩
  have hc89 := a9.trans hc9
  have L9 := Lib.hid (L8.out.chgNo hc89)
  have LX9 := Lib.hid (LX8.out.chgNo hc89)
  have LZ9 := Lib.hid (LY9.out.chgNo hc9)
  have H9 := Lib.hid (H8.out.chgNo hc89)
  clear a9 hbY hc9 hc89 HM LY9 L8 LX8 H8
  go_wp2_with fail
  have HI := Lib.hid (H9.out.items HQ.out)
  rw [T3.out] at HI
  refine HI.out.mono ?_
  rintro e w10 ⟨v, rfl, ho10, s10⟩
  obtain ⟨A10, c10, rfl, hnc10, _⟩ := own_slice ho10
  have L10 := Lib.hid (s10.keep L9.out)
  have LX10 := Lib.hid (s10.keep LX9.out)
  have LY10 := Lib.hid (s10.keep LZ9.out)
  have H10 := Lib.hid s10.st
  clear s10 HI L9 LX9 LZ9 H9 ho10
  simp only [List.length_singleton] at hnc10
  go_wp2_with fail
  have a11 : Chg No w10 (w10.alloc (.cells #[.string ⟨#[97]⟩] 9)) := (Chg.refl No w10).alloc _
  have r11 : Rd (w10.alloc (.cells #[.string ⟨#[97]⟩] 9)) 9 (some ⟨w10.heap.size, 0, none⟩) 1 ([aw1.key].map skey) := Rd.ofBlk (k := 1) (Blk.new w10 _ _) (by simp)
  have HR := Lib.hid ((H10.out.chgNo a11).remove (by decide) (some ⟨w10.heap.size, 0, none⟩) 1 1 [aw1.key] rfl _ r11 (by decide) (by intro k hk; rw [List.mem_singleton.1 hk]; decide))
  have hrm := H10.out.all.remove (by decide) [aw1.key]
  obtain ⟨X3, hX3⟩ : ∃ X3, X3 = (X2.rm D2 [aw1.key]).2.1 := ⟨_, rfl⟩
  obtain ⟨D3, hD3⟩ : ∃ D3, D3 = (X2.rm D2 [aw1.key]).2.2 := ⟨_, rfl⟩
  rw [← hX3, ← hD3] at HR hrm
  obtain ⟨r1, r2, r3, r4, r5, r6, r7, r8, r9, r10, r12⟩ := hrm
  have hB3 : X2.B.no aw1.key = X3.B.no aw1.key := by rw [r3]
  rw [hB3] at HR
  have F3 : Hid (X3.G = nolog gSmall ∧ X3.blk.epoch = 1 ∧ X3.blk.reserved = 64 ∧ X3.counts aw1 = false) := by
    refine ⟨by rw [r4]; exact F2.out.2.1, by rw [r10, F2.out.2.2.1]; exact F1.out.2.2.2.1, by rw [r12, F2.out.2.2.1]; exact F1.out.2.2.2.2.1, ?_⟩
    have h9 := r8 aw1.key (List.mem_singleton.2 rfl) T2.out 1 (by rw [F2.out.1]; exact Nat.le_refl _)
    unfold Eng.counts
    rcases h9 with h9 | h9
    · rw [decide_eq_false (by show ¬ X3.blk.horizon < 1; omega)]; rfl
    · rw [show X3.J.gone (Eng.key aw1.key) aw1.ver.toNat = true from h9]; simp
  clear r1 r2 r3 r4 r5 r6 r7 r8 r9 r10 r12 hB3 hX3 hD3 r11
  have L11 := Lib.hid (L10.out.chgNo a11)
  have LX11 := Lib.hid (LX10.out.chgNo a11)
  have LY11 := Lib.hid (LY10.out.chgNo a11)
  clear a11 L10 LX10 LY10 H10
  refine HR.out.mono ?_
  rintro e w12 ⟨t12, rfl, s12⟩
  have L12 := Lib.hid (s12.keep L11.out)
  have LX12 := Lib.hid (s12.keep LX11.out)
  have LY12 := Lib.hid (s12.keep LY11.out)
  have H12 := Lib.hid s12.st
  have HE12 : Hid (t12.E = t.E) := s12.E
  clear s12 HR L11 LX11 LY11
  go_wp2_with fail
  rw [← HE12.out]
  obtain ⟨t1, t2, t3⟩ := aw_told H12.out.all F3.out.1
  rw [F3.out.2.2.2] at t1
  have HG := Lib.hid (H12.out.get HQ.out aw1.key (by decide))
  have hg1 : X3.get D3 aw1.key = Item.zero ∧ X3.getE D3 aw1.key = 5 := by unfold Eng.get Eng.getE; rw [t1]; exact ⟨rfl, rfl⟩
  rw [hg1.1, hg1.2, show itemV Item.zero = .agg #[.string ⟨#[]⟩, .string ⟨#[]⟩, .int .u32 0, .int .i64 0, .int .u64 0] from rfl] at HG
  clear t1 t2 t3 hg1
  refine HG.out.mono ?_
  rintro e w13 ⟨rfl, s13⟩
  have L13 := Lib.hid (s13.keep L12.out)
  have LX13 := Lib.hid (s13.keep LX12.out)
  have LY13 := Lib.hid (s13.keep LY12.out)
  have H13 := Lib.hid s13.st
  clear s13 HG L12 LX12 LY12 H12
  go_wp2_with fail
  have a14 : Chg No w13 (w13.alloc (.cells #[.string ⟨#[]⟩, .string ⟨#[]⟩, .int .u32 0, .int .i64 0, .int .u64 0] tItem)) := (Chg.refl No w13).alloc _
  have HS := Lib.hid ((H13.out.chgNo a14).settle (by decide))
  have hst := H13.out.all.settle (by decide)
  obtain ⟨X4, hX4⟩ : ∃ X4, X4 = X3.stlX D3 := ⟨_, rfl⟩
  obtain ⟨D4, hD4⟩ : ∃ D4, D4 = X3.stlD D3 := ⟨_, rfl⟩
  rw [← hX4, ← hD4] at HS hst
  have F4 : Hid (X4.blk.epoch = 1 ∧ X4.blk.reserved = 64) := by
    obtain ⟨_, _, _, _, q5, _⟩ := hst
    rw [q5]
    exact ⟨F3.out.2.1, F3.out.2.2.1⟩
  have L14 := Lib.hid (L13.out.chgNo a14)
  have LX14 := Lib.hid (LX13.out.chgNo a14)
  have LY14 := Lib.hid (LY13.out.chgNo a14)
  clear a14 hst hX4 hD4 L13 LX13 LY13 H13
  refine HS.out.mono ?_
  rintro e w15 ⟨t15, rfl, s15⟩
  have L15 := Lib.hid (s15.keep L14.out)
  have LX15 := Lib.hid (s15.keep LX14.out)
  have LY15 := Lib.hid (s15.keep LY14.out)
  have H15 := Lib.hid s15.st
  have HE15 : Hid (t15.E = t12.E) := s15.E
  clear s15 HS L14 LX14 LY14
  go_wp2_with fail
  rw [← HE15.out]
  have HW := Lib.hid (H15.out.wipe (by decide))
  obtain ⟨_, _, _, q4⟩ := H15.out.all.run.wipe (by decide)
  obtain ⟨X5, hX5⟩ : ∃ X5, X5 = X4.wipeX D4 := ⟨_, rfl⟩
  obtain ⟨D5, hD5⟩ : ∃ D5, D5 = D4.stD X4.wB := ⟨_, rfl⟩
  rw [← hX5, ← hD5] at HW
  rw [← hX5] at q4
  have F5 : Hid (X5.blk.epoch = 1 ∧ X5.blk.reserved = 64) := by rw [q4]; exact F4.out
  clear q4 hX5 hD5
  refine HW.out.mono ?_
  rintro e w16 ⟨t16, rfl, s16⟩
  have L16 := Lib.hid (s16.keep L15.out)
  have LX16 := Lib.hid (s16.keep LX15.out)
  have LY16 := Lib.hid (s16.keep LY15.out)
  have H16 := Lib.hid s16.st
  have HE16 : Hid (t16.E = t15.E) := s16.E
  clear s16 HW L15 LX15 LY15 H15
  go_wp2_with fail
  rw [← HE16.out]
  have HB := Lib.hid H16.out.block
  obtain ⟨b5, hb5⟩ : ∃ b5, b5 = X5.blk := ⟨_, rfl⟩
  have HB5 := Lib.hid hb5
  rw [← hb5] at HB F5
  clear hb5
  rw [sbV_eq] at HB
  refine HB.out.mono ?_
  rintro e w17 ⟨rfl, hc17⟩
  have L17 := Lib.hid (L16.out.chgNo hc17)
  have LX17 := Lib.hid (LX16.out.chgNo hc17)
  have LY17 := Lib.hid (LY16.out.chgNo hc17)
  have H17 := Lib.hid (H16.out.chgNo hc17)
  clear hc17 HB L16 LX16 LY16 H16
  have HZ := Lib.hid (Blk.new w17 tSb #[.int .u64 0, .int .u64 0, .int .u64 0, .int .u64 0, .int .u64 0, .bool false, .int .i64 0])
  have z0 := HZ.out.cell 0
  have z1 := HZ.out.cell 1
  have z2 := HZ.out.cell 2
  have z3 := HZ.out.cell 3
  have z4 := HZ.out.cell 4
  have z5 := HZ.out.cell 5
  have z6 := HZ.out.cell 6
  have g0 := HZ.out.frozen 0
  have g1 := HZ.out.frozen 1
  have g2 := HZ.out.frozen 2
  have g3 := HZ.out.frozen 3
  have g4 := HZ.out.frozen 4
  have g5 := HZ.out.frozen 5
  have g6 := HZ.out.frozen 6
  simp only [List.getElem?_toArray, List.getElem?_cons_zero, List.getElem?_cons_succ] at z0 z1 z2 z3 z4 z5 z6
  have b0 := L17.out.blk.cell 0
  have b1 := L17.out.blk.cell 1
  have b2 := L17.out.blk.cell 2
  have b3 := L17.out.blk.cell 3
  have b4 := L17.out.blk.cell 4
  have b5_ := L17.out.blk.cell 5
  have b6 := L17.out.blk.cell 6
  have x0 := LX17.out.blk.cell 0
  have x1 := LX17.out.blk.cell 1
  have x2 := LX17.out.blk.cell 2
  have x3 := LX17.out.blk.cell 3
  have x4 := LX17.out.blk.cell 4
  have y0 := LY17.out.blk.cell 0
  have y1 := LY17.out.blk.cell 1
  have y2 := LY17.out.blk.cell 2
  have y3 := LY17.out.blk.cell 3
  have y4 := LY17.out.blk.cell 4
  simp only [List.getElem?_toArray, List.getElem?_cons_zero, List.getElem?_cons_succ] at b0 b1 b2 b3 b4 b5_ b6 x0 x1 x2 x3 x4 y0 y1 y2 y3 y4
  have lb := L17.out.blk.lt
  have lx := LX17.out.blk.lt
  have ly := LY17.out.blk.lt
  have e1 : ¬ bb = w17.heap.size := by omega
  have e2 : ¬ bx = w17.heap.size := by omega
  have e3 : ¬ bY = w17.heap.size := by omega
  have e4 : ¬ w17.heap.size = bb := by omega
  have e5 : ¬ w17.heap.size = bx := by omega
  have e6 : ¬ w17.heap.size = bY := by omega
  go_wp2_with fail
  clear z0 z1 z2 z3 z4 z5 z6 g0 g1 g2 g3 g4 g5 g6 b0 b1 b2 b3 b4 b5_ b6 x0 x1 x2 x3 x4 y0 y1 y2 y3 y4 lb lx ly e1 e2 e3 e4 e5 e6 HZ L17 LX17 LY17
  have a18 : Chg No w17 (w17.alloc (.cells #[.int .u64 b5.seq, .int .u64 b5.epoch, .int .u64 b5.reserved, .int .u64 b5.horizon, .int .u64 b5.gen, .bool b5.clean, .int .i64 5] tSb)) := (Chg.refl No w17).alloc _
  have L18 := Lib.hid (Loc10.new H17.out tSb #[.int .u64 b5.seq, .int .u64 b5.epoch, .int .u64 b5.reserved, .int .u64 b5.horizon, .int .u64 b5.gen, .bool b5.clean, .int .i64 5])
  have H18 := Lib.hid (H17.out.chgNo a18)
  obtain ⟨w18, hw18⟩ : ∃ w18, w18 = w17.alloc (.cells #[.int .u64 b5.seq, .int .u64 b5.epoch, .int .u64 b5.reserved, .int .u64 b5.horizon, .int .u64 b5.gen, .bool b5.clean, .int .i64 5] tSb) := ⟨_, rfl⟩
  obtain ⟨bC, hbC⟩ : ∃ bC, bC = w17.heap.size := ⟨_, rfl⟩
  rw [← hw18, ← hbC] at L18
  rw [← hw18] at H18
  rw [← hw18, ← hbC]
  clear hw18 hbC a18 H17
  have k5 : ((b5.epoch : Nat) : Int) = 1 := by rw [F5.out.1]; rfl
  have k6 : ((b5.reserved : Nat) : Int) = 64 := by rw [F5.out.2]; rfl
  have hfi1 := fun a b c d e f g W => (field_sb a b c d e f g W).1
  have hfi2 := fun a b c d e f g W => (field_sb a b c d e f g W).2.1
  have hfi6 := fun a b c d e f g W => (field_sb a b c d e f g W).2.2
  have HBL := fun W => Lib.hid (fun hc : Chg No w18 W => (H18.out.chgNo hc).block)
  rw [← HB5.out, sbV_eq, k5, k6] at HBL
  refine ((HBL _).out (Chg.refl _ _)).mono ?_
  rintro e w19 ⟨rfl, hc19⟩
  have HC19 := Lib.hid hc19
  clear hc19
  go_wp2_with fail
  refine ((HBL _).out HC19.out).mono ?_
  rintro e w20 ⟨rfl, hc20⟩
  have HC20 := Lib.hid (HC19.out.trans hc20)
  clear hc20 HC19 HBL
  go_wp2_with fail
  refine (HSM _).out.mono ?_
  rintro e w21 ⟨rfl, hc21⟩
  have HC21 := Lib.hid (HC20.out.trans hc21)
  clear hc21 HC20
  go_wp2_with fail
  refine (egood_calls gSmall rfl _).mono ?_
  rintro e w22 ⟨rfl, hc22⟩
  have HC22 := Lib.hid (HC21.out.trans hc22)
  clear hc22 HC21
  go_wp2_with fail
  refine (HSM _).out.mono ?_
  rintro e w23 ⟨rfl, hc23⟩
  have HC23 := Lib.hid (HC22.out.trans hc23)
  clear hc23 HC22
  go_wp2_with fail
  refine (epages_calls gSmall rfl _).mono ?_
  rintro e w24 ⟨rfl, hc24⟩
  have HC24 := Lib.hid (HC23.out.trans hc24)
  have hpg : ((gSmall.pages : Nat) : Int) = 11 := by decide
  rw [hpg]
  clear hc24 HC23 hpg
  have L24 := Lib.hid (L18.out.chgNo HC24.out)
  have c0 := L24.out.blk.cell 0
  have c1 := L24.out.blk.cell 1
  have c2 := L24.out.blk.cell 2
  have c3 := L24.out.blk.cell 3
  have c4 := L24.out.blk.cell 4
  have c5 := L24.out.blk.cell 5
  have c6 := L24.out.blk.cell 6
  simp only [List.getElem?_toArray, List.getElem?_cons_zero, List.getElem?_cons_succ] at c0 c1 c2 c3 c4 c5 c6
  go_wp2_with fail
  have hok5 : b5.Ok := by rw [HB5.out]; exact H18.out.all.run.ok
  have HST := Lib.hid ((H18.out.chgNo HC24.out).set (by decide) { b5 with image := 5 } ⟨hok5.seq, hok5.epoch, hok5.reserved, hok5.horizon, hok5.gen, by show (-9223372036854775808 : Int) ≤ 5; decide, by show (5 : Int) ≤ 9223372036854775807; decide⟩ (by show b5.epoch ≤ _; rw [F5.out.1]; decide) (by rw [HB5.out]) (by rw [HB5.out]) (by rw [HB5.out]))
  have hsv : sbV { b5 with image := 5 } = .agg #[.int .u64 b5.seq, .int .u64 1, .int .u64 64, .int .u64 b5.horizon, .int .u64 b5.gen, .bool b5.clean, .int .i64 5] := by
    rw [sbV_eq, ← k5, ← k6]
  rw [hsv] at HST
  clear hsv
  have hse := H18.out.all.run.set (by decide) { b5 with image := 5 } ⟨hok5.seq, hok5.epoch, hok5.reserved, hok5.horizon, hok5.gen, by show (-9223372036854775808 : Int) ≤ 5; decide, by show (5 : Int) ≤ 9223372036854775807; decide⟩ (by show b5.epoch ≤ _; rw [F5.out.1]; decide) (by show b5.gen ≤ _; rw [HB5.out]; exact Nat.le_succ_of_le H18.out.all.run.gen) (by show b5.reserved ≤ _; rw [F5.out.2]; decide) (by show _ ≤ b5.reserved; rw [HB5.out]; exact H18.out.all.run.last) (by show b5.horizon ≤ _; rw [HB5.out]; exact H18.out.all.run.hor)
  have hi6 : (X5.set D5 { b5 with image := 5 }).blk.image = 5 := by rw [hse.2.1]; rfl
  clear c0 c1 c2 c3 c4 c5 c6 hok5 hse
  refine HST.out.mono ?_
  rintro e w25 ⟨rfl, s25⟩
  have H25 := Lib.hid s25.st
  clear s25 HST
  go_wp2_with fail
  have HBL := Lib.hid H25.out.block
  rw [sbV_eq, hi6] at HBL
  refine HBL.out.mono ?_
  rintro e w26 ⟨rfl, hc26⟩
  have HC26 := Lib.hid (H25.out.chg.trans hc26)
  clear hc26 HBL
  go_wp2_with fail
  go_ret
  exact ⟨rfl, HC26.out⟩
end Go.Proofs.YtplpbbdakihnfaaGreat
end

/- The engine's Open, where it may not be opened. -/
section
namespace Go.Proofs.YtplpbbdakihnfaaGreat
open Go.RowKit
attribute [local go_sem ↓] Go.wp_at_zero Go.wp_at_succ
set_option linter.unusedSimpArgs false
set_option linter.unusedVariables false
section
variable {w w' : World} {h : DevH} {D : Dev}
set_option maxRecDepth 100000 in
set_option maxHeartbeats 4000000 in
theorem eopen_few (hd : DevAt w h D) (g : Geo) (hg : g.ok = true) (hfit : D.n < g.pages) :
    Calls Tryz.prog 14 #[.pointer (some ⟨h.d, 0, none⟩), g.V] w fun e w' => e = .returned (.tuple #[.pointer none, sbV Sb.zero, .int .i64 1]) ∧ Chg No w w' := by
  have HGD := fun W => Lib.hid (egood_calls g hg W)
  have HPG := fun W => Lib.hid (epages_calls g hg W)
  have HDP := fun W => Lib.hid (fun hc : Chg No w W => pages_calls (hd.chgNo hc))
  have hpl : decide (D.n < g.pages) = true := decide_eq_true hfit
  obtain ⟨pg, hpg⟩ : ∃ pg, pg = g.pages := ⟨_, rfl⟩
  rw [← hpg] at HPG hpl
  clear hd hg hfit hpg
  obtain ⟨gj, gb, gr, gi⟩ := g
  unfold Geo.V at HGD HPG ⊢
  simp only at HGD HPG ⊢
  go_enter Tryz.func14, Tryz.ntmps14
  go_wp2_with fail
  obtain ⟨w1, hw1⟩ : ∃ w1, w1 = (w.alloc (.cells #[.int .i64 gj, .int .i64 gb, .int .i64 gr, .int .i64 gi] tGeo)).alloc (.cells #[.int .u64 0, .int .u64 0, .int .u64 0, .int .u64 0, .int .u64 0, .bool false, .int .i64 0] tSb) := ⟨_, rfl⟩
  change Code.wp _ _ _ _ ((w.alloc (.cells #[.int .i64 gj, .int .i64 gb, .int .i64 gr, .int .i64 gi] tGeo)).alloc (.cells #[.int .u64 0, .int .u64 0, .int .u64 0, .int .u64 0, .int .u64 0, .bool false, .int .i64 0] tSb))
  rw [← hw1]
  have HC1 : Hid (Chg No w w1) := by show Chg No w w1; rw [hw1]; exact ((Chg.refl No w).alloc _).alloc _
  have HG1 : Hid (Blk w1 w.heap.size tGeo #[.int .i64 gj, .int .i64 gb, .int .i64 gr, .int .i64 gi]) := by show Blk _ _ _ _; rw [hw1]; exact (Blk.new w tGeo _).alloc _
  have HR0 : Hid (Blk w1 (w.heap.size + 1) tSb #[.int .u64 0, .int .u64 0, .int .u64 0, .int .u64 0, .int .u64 0, .bool false, .int .i64 0]) := by
    show Blk _ _ _ _
    rw [hw1]
    have := Blk.new (w.alloc (.cells #[.int .i64 gj, .int .i64 gb, .int .i64 gr, .int .i64 gi] tGeo)) tSb #[.int .u64 0, .int .u64 0, .int .u64 0, .int .u64 0, .int .u64 0, .bool false, .int .i64 0]
    simp only [World.size_alloc] at this
    exact this
  have z0 := HG1.out.cell 0
  have z1 := HG1.out.cell 1
  have z2 := HG1.out.cell 2
  have z3 := HG1.out.cell 3
  simp at z0 z1 z2 z3
  clear hw1
  go_region_held3 (fun w' => w'.cell? ⟨w.heap.size, 0, none⟩ = some (.int .i64 gj) ∧ w'.cell? ⟨w.heap.size, 1, none⟩ = some (.int .i64 gb) ∧ w'.cell? ⟨w.heap.size, 2, none⟩ = some (.int .i64 gr) ∧ w'.cell? ⟨w.heap.size, 3, none⟩ = some (.int .i64 gi)) (first | go_keep)
    (first
      | (go_at_call 31
         refine (HGD _).out.mono ?_
         rintro e w3 ⟨rfl, hc3⟩
         have HC3 := Lib.hid ((by (repeat (first | (with_reducible exact Chg.refl _ _) | (with_reducible assumption) | (with_reducible refine Chg.drewN ?_ _) | (with_reducible refine Chg.drew ?_) | (with_reducible refine Chg.alloc ?_ _) | (with_reducible refine Chg.setCell ?_ (by first | (left; simp [DevH.foot]; done) | (right; simp; done) | (right; simp; omega)) _))) : Chg No w1 _).trans hc3)
         have k0 := HC3.out.cellNo z0
         have k1 := HC3.out.cellNo z1
         have k2 := HC3.out.cellNo z2
         have k3 := HC3.out.cellNo z3
         clear hc3)
      | (go_at_call 33
         refine ((HDP _).out (by first | exact HC1.out.trans HC3.out | exact HC1.out.trans HC3.out.drew | exact HC1.out.trans HC4.out)).mono ?_
         rintro e w4 ⟨rfl, rfl⟩)
      | (go_at_call 18
         refine (HPG _).out.mono ?_
         rintro e w4 ⟨rfl, hc4⟩
         have HC4 := Lib.hid ((by first | exact HC3.out | exact HC3.out.drew : Chg No w1 _).trans hc4)
         have j0 := HC4.out.cellNo z0
         have j1 := HC4.out.cellNo z1
         have j2 := HC4.out.cellNo z2
         have j3 := HC4.out.cellNo z3
         clear hc4))
  have HC5 := Lib.hid (HC1.out.trans HC4.out)
  have HR1 := Lib.hid (HR0.out.chg HC4.out (fun h => h))
  clear z0 z1 z2 z3 k0 k1 k2 k3 j0 j1 j2 j3 HC3 HC4 HC1 HG1 HR0 HGD HPG HDP
  have z := HR1.out
  have z0 := z.cell 0
  have z1 := z.cell 1
  have z2 := z.cell 2
  have z3 := z.cell 3
  have z4 := z.cell 4
  have z5 := z.cell 5
  have z6 := z.cell 6
  have g0 := z.frozen 0
  have g1 := z.frozen 1
  have g2 := z.frozen 2
  have g3 := z.frozen 3
  have g4 := z.frozen 4
  have g5 := z.frozen 5
  have g6 := z.frozen 6
  clear z
  simp only [List.getElem?_toArray, List.getElem?_cons_zero, List.getElem?_cons_succ] at z0 z1 z2 z3 z4 z5 z6
  go_wp2_with fail
  have hst := set7_chg w4 (w.heap.size + 1) (.int .u64 0) (.int .u64 0) (.int .u64 0) (.int .u64 0) (.int .u64 0) (.bool false) (.int .i64 0)
  refine bodyPost_ret (v := .tuple #[.pointer none, .agg #[.int .u64 0, .int .u64 0, .int .u64 0, .int .u64 0, .int .u64 0, .bool false, .int .i64 0], .int .i64 1]) (by simp [results, Tryz.results14, go_sem, z0, z1, z2, z3, z4, z5, z6]) rfl ⟨by rw [sbV_eq]; rfl, HC5.out.then hst (fun i hi e => by have e2 : i = w.heap.size + 1 := e; omega)⟩
theorem chg_grow (w : World) (n : Nat) (os : Array Obj) : Chg No w (Go.Sort.grow (w.drewN n) os) := by
  refine ((Chg.refl No w).drewN n).trans (S := No) ⟨rfl, rfl, rfl, by simp [Go.Sort.grow], fun k hk _ => ?_⟩
  unfold Go.Sort.grow
  simp only
  rw [Array.getElem?_append_left hk]
set_option maxRecDepth 100000 in
theorem ebad_grown (w : World) :
    Calls Tryz.prog 31 #[(Geo.mk 0 0 0 0).V] w fun e w' => e = .returned (.bool false) ∧ ∃ q os', w' = Go.Sort.grow (w.drewN q) os' := by
  unfold Geo.V
  go_enter Tryz.func31, Tryz.ntmps31
  go_wp2_with fail
  go_ret
  exact ⟨rfl, 0, #[.cells #[.int .i64 0, .int .i64 0, .int .i64 0, .int .i64 0] 34], by rw [← Go.Sort.alloc_eq_grow]; rfl⟩
set_option maxRecDepth 100000 in
set_option maxHeartbeats 4000000 in
theorem eopen_zero (w : World) (d : Nat) :
    Calls Tryz.prog 14 #[.pointer (some ⟨d, 0, none⟩), (Geo.mk 0 0 0 0).V] w fun e w' => e = .returned (.tuple #[.pointer none, sbV Sb.zero, .int .i64 1]) ∧ Chg No w w' := by
  have HGD := fun W => Lib.hid (ebad_grown W)
  unfold Geo.V at HGD ⊢
  simp only at HGD ⊢
  go_enter Tryz.func14, Tryz.ntmps14
  go_wp2_with fail
  obtain ⟨w1, hw1⟩ : ∃ w1, w1 = (w.alloc (.cells #[.int .i64 ((0 : Nat) : Int), .int .i64 ((0 : Nat) : Int), .int .i64 ((0 : Nat) : Int), .int .i64 ((0 : Nat) : Int)] tGeo)).alloc (.cells #[.int .u64 0, .int .u64 0, .int .u64 0, .int .u64 0, .int .u64 0, .bool false, .int .i64 0] tSb) := ⟨_, rfl⟩
  change Code.wp _ _ _ _ ((w.alloc (.cells #[.int .i64 ((0 : Nat) : Int), .int .i64 ((0 : Nat) : Int), .int .i64 ((0 : Nat) : Int), .int .i64 ((0 : Nat) : Int)] tGeo)).alloc (.cells #[.int .u64 0, .int .u64 0, .int .u64 0, .int .u64 0, .int .u64 0, .bool false, .int .i64 0] tSb))
  rw [← hw1]
  have HC1 : Hid (Chg No w w1) := by show Chg No w w1; rw [hw1]; exact ((Chg.refl No w).alloc _).alloc _
  have HG1 : Hid (Blk w1 w.heap.size tGeo #[.int .i64 ((0 : Nat) : Int), .int .i64 ((0 : Nat) : Int), .int .i64 ((0 : Nat) : Int), .int .i64 ((0 : Nat) : Int)]) := by show Blk _ _ _ _; rw [hw1]; exact (Blk.new w tGeo _).alloc _
  have HR0 : Hid (Blk w1 (w.heap.size + 1) tSb #[.int .u64 0, .int .u64 0, .int .u64 0, .int .u64 0, .int .u64 0, .bool false, .int .i64 0]) := by
    show Blk _ _ _ _
    rw [hw1]
    have := Blk.new (w.alloc (.cells #[.int .i64 ((0 : Nat) : Int), .int .i64 ((0 : Nat) : Int), .int .i64 ((0 : Nat) : Int), .int .i64 ((0 : Nat) : Int)] tGeo)) tSb #[.int .u64 0, .int .u64 0, .int .u64 0, .int .u64 0, .int .u64 0, .bool false, .int .i64 0]
    simp only [World.size_alloc] at this
    exact this
  have z0 := HG1.out.cell 0
  have z1 := HG1.out.cell 1
  have z2 := HG1.out.cell 2
  have z3 := HG1.out.cell 3
  simp at z0 z1 z2 z3
  clear hw1
  have y0 := fun n os => Go.cell_grown (n := n) (os := os) (HG1.out.lt) z0
  have y1 := fun n os => Go.cell_grown (n := n) (os := os) (HG1.out.lt) z1
  have y2 := fun n os => Go.cell_grown (n := n) (os := os) (HG1.out.lt) z2
  have y3 := fun n os => Go.cell_grown (n := n) (os := os) (HG1.out.lt) z3
  have hmix : Tryz.prog.follows .mixedOrders = true := by kernel_rfl
  go_quiet_grown ((go_at_call 31; exact Go.Calls.grown_of (HGD _).out))
  obtain ⟨w3, hw3⟩ : ∃ w3, w3 = Go.Sort.grow (w1.drewN nq) osq := ⟨_, rfl⟩
  have HC3 : Hid (Chg No w1 w3) := by rw [hw3]; exact chg_grow w1 nq osq
  rw [← hw3]
  clear hw3 y0 y1 y2 y3
  have HC5 := Lib.hid (HC1.out.trans HC3.out)
  have HR1 := Lib.hid (HR0.out.chg HC3.out (fun h => h))
  clear z0 z1 z2 z3 HC3 HC1 HG1 HR0 HGD
  have z := HR1.out
  have z0 := z.cell 0
  have z1 := z.cell 1
  have z2 := z.cell 2
  have z3 := z.cell 3
  have z4 := z.cell 4
  have z5 := z.cell 5
  have z6 := z.cell 6
  have g0 := z.frozen 0
  have g1 := z.frozen 1
  have g2 := z.frozen 2
  have g3 := z.frozen 3
  have g4 := z.frozen 4
  have g5 := z.frozen 5
  have g6 := z.frozen 6
  clear z
  simp only [List.getElem?_toArray, List.getElem?_cons_zero, List.getElem?_cons_succ] at z0 z1 z2 z3 z4 z5 z6
  go_wp2_with fail
  have hst := set7_chg w3 (w.heap.size + 1) (.int .u64 0) (.int .u64 0) (.int .u64 0) (.int .u64 0) (.int .u64 0) (.bool false) (.int .i64 0)
  refine bodyPost_ret (v := .tuple #[.pointer none, .agg #[.int .u64 0, .int .u64 0, .int .u64 0, .int .u64 0, .int .u64 0, .bool false, .int .i64 0], .int .i64 1]) (by simp [results, Tryz.results14, go_sem, z0, z1, z2, z3, z4, z5, z6]) rfl ⟨by rw [sbV_eq]; rfl, HC5.out.then hst (fun i hi e => by have e2 : i = w.heap.size + 1 := e; omega)⟩
end
end Go.Proofs.YtplpbbdakihnfaaGreat
end
