/- Packed texts: EngAv, EngPh, EngPi, EngPt, KeyMap, Shelf. -/
import Derived.Test.YtplpbbdakihnfaaGreatPq27
import Derived.Test.YtplpbbdakihnfaaGreatPq01
import Derived.Maps.Own
import Derived.Lib.SlKeysI
import Derived.WideShapes
import Derived.Shelf.SlIterI.Nil
import Derived.Shelf.SortM.Plain
import Derived.Shelf.SortM.SortNone
import Derived.Test.YtplpbbdakihnfaaGreatChecked
set_option linter.unusedSimpArgs false
set_option linter.unusedVariables false
section
namespace Go.Proofs.YtplpbbdakihnfaaGreat
open Go.RowKit
attribute [local go_sem ↓] Go.wp_at_zero Go.wp_at_succ
set_option maxRecDepth 100000 in
set_option maxHeartbeats 8000000 in
theorem awake10_calls (w : World) : Calls Tryz.prog 12 #[] w fun e w' => e = .returned (.bool true) ∧ Chg No w w' := by
  have HN := fun W => Lib.hid (eng_new12 W)
  have HSM := fun W => Lib.hid (small_calls W)
  go_enter Tryz.func12, Tryz.ntmps12
  go_wp2_with fail
  refine (HN _).out.mono ?_
  rintro e w1 ⟨h, rfl, hd1, hc1, hf1⟩
  have HD1 := Lib.hid hd1
  have HC1 := Lib.hid hc1
  have HF1 := Lib.hid hf1
  clear hd1 hc1 hf1 HN
  go_wp2_with fail
  refine (HSM _).out.mono ?_
  rintro e w2 ⟨rfl, hc2⟩
  have hf0 : ∀ k, h.foot k → w.heap.size ≤ k := HF1.out
  obtain ⟨n1, n2, n3, n4, n5⟩ := all_new 12 gSmall rfl (by decide) (fun _ => True)
  have HO := Lib.hid (Heng.opened (w0 := w) (h := h) ((DevN.chgNo HD1.out hc2).at_) hf0 (HC1.out.trans hc2) (g := gSmall) rfl (by decide) rfl (by rw [n1]; decide) (by rw [n1]; decide) n2 n4)
  rw [n1] at HO
  obtain ⟨X0, hX0⟩ : ∃ X0, X0 = Eng.opened (Dev.new 12) gSmall := ⟨_, rfl⟩
  obtain ⟨D0, hD0⟩ : ∃ D0, D0 = (Dev.new 12).stD (Eng.now (Dev.new 12)) := ⟨_, rfl⟩
  rw [← hX0, ← hD0] at HO
  rw [← hX0] at n3
  have HX0 := Lib.hid n3
  clear hc2 n1 n2 n3 n4 n5 hX0 hD0 hf0
  go_wp2_with fail
  refine HO.out.mono ?_
  rintro e w3 ⟨t, rfl, h3, _, _⟩
  have H3 := Lib.hid h3
  clear h3 HO
  rw [sbV_eq]
  go_wp2_with fail
  have L4 := Lib.hid (Loc10.new H3.out tSb #[.int .u64 Sb.zero.seq, .int .u64 Sb.zero.epoch, .int .u64 Sb.zero.reserved, .int .u64 Sb.zero.horizon, .int .u64 Sb.zero.gen, .bool Sb.zero.clean, .int .i64 Sb.zero.image])
  have H4 := Lib.hid (H3.out.chgNo ((Chg.refl No w3).alloc (.cells #[.int .u64 Sb.zero.seq, .int .u64 Sb.zero.epoch, .int .u64 Sb.zero.reserved, .int .u64 Sb.zero.horizon, .int .u64 Sb.zero.gen, .bool Sb.zero.clean, .int .i64 Sb.zero.image] tSb)))
  obtain ⟨bb, hbb⟩ : ∃ bb, bb = w3.heap.size := ⟨_, rfl⟩
  rw [← hbb] at L4 ⊢
  clear hbb H3
  have HV := Lib.hid (H4.out.version (by decide))
  have hv : ((X0.last + 1 : Nat) : Int) = 1 := by rw [HX0.out]; rfl
  rw [hv] at HV
  obtain ⟨v1, v2, v3, v4, v5, v6, v7, v8, v9, v10, v11, v12⟩ := H4.out.all.run.version (by decide)
  obtain ⟨X1, hX1⟩ : ∃ X1, X1 = X0.verX D0 := ⟨_, rfl⟩
  obtain ⟨D1, hD1⟩ : ∃ D1, D1 = X0.verD D0 := ⟨_, rfl⟩
  rw [← hX1, ← hD1] at HV
  have F1 : Hid (X1.last = 1 ∧ X1.G = nolog gSmall ∧ X1.blk.horizon = 0 ∧ X1.blk.epoch = 1 ∧ X1.blk.reserved = 64 ∧ X1.J.marks = []) := by
    rw [hX1]
    refine ⟨by rw [v5, HX0.out]; rfl, by rw [v8, HX0.out]; rfl, by rw [v9, HX0.out]; rfl, by rw [v11, HX0.out]; rfl, by rw [v12, HX0.out]; rfl, by rw [v6, HX0.out]; rfl⟩
  clear v1 v2 v3 v4 v5 v6 v7 v8 v9 v10 v11 v12 hX1 hD1 hv HX0
  refine HV.out.mono ?_
  rintro e w5 ⟨rfl, s5⟩
  have L5 := Lib.hid (s5.keep L4.out)
  have H5 := Lib.hid s5.st
  clear s5 HV L4 H4
  go_wp2_with fail
  have hno : X1.B.no aw1.key < 3 := by have h9 := H5.out.all.bks.bk.no_ aw1.key; rw [List.length_replicate] at h9; exact h9
  have hl5 : (List.replicate gSmall.b ([] : List Item))[X1.B.no aw1.key]? = some [] := by rw [List.getElem?_replicate]; exact if_pos hno
  have a6 : Chg No w5 (w5.alloc (.cells #[.string ⟨#[97]⟩, .string ⟨#[49]⟩, .int .u32 0, .int .i64 0, .int .u64 1] tItem)) := (Chg.refl No w5).alloc _
  have LX6 := Lib.hid (Loc10.new H5.out tItem #[.string ⟨#[97]⟩, .string ⟨#[49]⟩, .int .u32 0, .int .i64 0, .int .u64 1])
  have L6 := Lib.hid (L5.out.chgNo a6)
  have HP := Lib.hid ((H5.out.chgNo a6).small (by decide) (x := aw1) (by rfl) (by decide) (fun h => h) (fun _ _ _ => True.intro) hl5)
  rw [show itemV aw1 = .agg #[.string ⟨#[97]⟩, .string ⟨#[49]⟩, .int .u32 0, .int .i64 0, .int .u64 1] from rfl, pleft_one (by decide)] at HP
  obtain ⟨q1, q2, q3, q4, q5⟩ := H5.out.all.small (by decide) (x := aw1) (by rfl) (by decide) (fun h => h) (fun _ _ _ => True.intro) hl5
  have hB2 : (X1.psX D1 aw1).B.no aw1.key = X1.B.no aw1.key := by rw [q4]; exact add_no X1.B aw1 aw1.key
  rw [← hB2] at HP
  obtain ⟨X2, hX2⟩ : ∃ X2, X2 = X1.psX D1 aw1 := ⟨_, rfl⟩
  obtain ⟨D2, hD2⟩ : ∃ D2, D2 = X1.psD D1 aw1 := ⟨_, rfl⟩
  rw [← hX2, ← hD2] at HP
  have F2 : Hid (X2.last = 1 ∧ X2.G = nolog gSmall ∧ X2.blk = X1.blk ∧ X2.J = X1.J) := by
    rw [hX2, q4]
    exact ⟨F1.out.1, by show X1.G.drop aw1.key = _; rw [F1.out.2.1]; rfl, rfl, rfl⟩
  clear q1 q2 q3 q4 q5 hB2 hX2 hD2 hno hl5 a6 H5 L5
  obtain ⟨bx, hbx⟩ : ∃ bx, bx = w5.heap.size := ⟨_, rfl⟩
  rw [← hbx] at LX6 ⊢
  clear hbx
  refine HP.out.mono ?_
  rintro e w7 ⟨rfl, s7⟩
  have L7 := Lib.hid (s7.keep L6.out)
  have LX7 := Lib.hid (s7.keep LX6.out)
  have H7 := Lib.hid s7.st
  clear s7 HP L6 LX6
  have hQ : ∀ x : Item, (False ∨ x = aw1) → x.good = true := fun x hx => hx.elim (fun h => h.elim) (fun e => by rw [e]; rfl)
  have HQ := Lib.hid hQ
  clear hQ
  go_wp2_with fail
  have hcn : X2.counts aw1 = true := by
    unfold Eng.counts
    rw [F2.out.2.2.1, F1.out.2.2.1, F2.out.2.2.2]
    unfold Jn.gone
    rw [F1.out.2.2.2.2.2]
    rfl
  obtain ⟨t1, t2, t3⟩ := aw_told H7.out.all F2.out.2.1
  rw [if_pos hcn] at t1 t3
  have HG := Lib.hid (H7.out.get HQ.out aw1.key (by decide))
  have hg1 : X2.get D2 aw1.key = aw1 ∧ X2.getE D2 aw1.key = 0 := by unfold Eng.get Eng.getE; rw [t1]; exact ⟨rfl, rfl⟩
  rw [hg1.1, hg1.2, show itemV aw1 = .agg #[.string ⟨#[97]⟩, .string ⟨#[49]⟩, .int .u32 0, .int .i64 0, .int .u64 1] from rfl] at HG
  have T2 := Lib.hid t2
  have T3 := Lib.hid t3
  clear t1 t2 t3 hg1 hcn
  refine HG.out.mono ?_
  rintro e w8 ⟨rfl, s8⟩
  have L8 := Lib.hid (s8.keep L7.out)
  have LX8 := Lib.hid (s8.keep LX7.out)
  have H8 := Lib.hid s8.st
  clear s8 HG L7 LX7 H7
  go_wp2_with fail
  have a9 : Chg No w8 (w8.alloc (.cells #[.string ⟨#[97]⟩, .string ⟨#[49]⟩, .int .u32 0, .int .i64 0, .int .u64 1] tItem)) := (Chg.refl No w8).alloc _
  have LY9 := Lib.hid (Loc10.new H8.out tItem #[.string ⟨#[97]⟩, .string ⟨#[49]⟩, .int .u32 0, .int .i64 0, .int .u64 1])
  have HM := Lib.hid ((H8.out.chgNo a9).may aw1.key (by decide))
  rw [T2.out] at HM
  obtain ⟨bY, hbY⟩ : ∃ bY, bY = w8.heap.size := ⟨_, rfl⟩
  rw [← hbY] at LY9 ⊢
  refine HM.out.mono ?_
  rintro e w9 ⟨rfl, hc9⟩
  have hc89 := a9.trans hc9
  have L9 := Lib.hid (L8.out.chgNo hc89)
  have LX9 := Lib.hid (LX8.out.chgNo hc89)
  have LZ9 := Lib.hid (LY9.out.chgNo hc9)
  have H9 := Lib.hid (H8.out.chgNo hc89)
  clear a9 hbY hc9 hc89 HM LY9 L8 LX8 H8
  go_wp2_with fail
  have HI := Lib.hid (H9.out.items HQ.out)
  rw [T3.out] at HI
  refine HI.out.mono ?_
  rintro e w10 ⟨v, rfl, ho10, s10⟩
  obtain ⟨A10, c10, rfl, hnc10, _⟩ := own_slice ho10
  have L10 := Lib.hid (s10.keep L9.out)
  have LX10 := Lib.hid (s10.keep LX9.out)
  have LY10 := Lib.hid (s10.keep LZ9.out)
  have H10 := Lib.hid s10.st
  clear s10 HI L9 LX9 LZ9 H9 ho10
  simp only [List.length_singleton] at hnc10
  go_wp2_with fail
  have a11 : Chg No w10 (w10.alloc (.cells #[.string ⟨#[97]⟩] 9)) := (Chg.refl No w10).alloc _
  have r11 : Rd (w10.alloc (.cells #[.string ⟨#[97]⟩] 9)) 9 (some ⟨w10.heap.size, 0, none⟩) 1 ([aw1.key].map skey) := Rd.ofBlk (k := 1) (Blk.new w10 _ _) (by simp)
  have HR := Lib.hid ((H10.out.chgNo a11).remove (by decide) (some ⟨w10.heap.size, 0, none⟩) 1 1 [aw1.key] rfl _ r11 (by decide) (by intro k hk; rw [List.mem_singleton.1 hk]; decide))
  have hrm := H10.out.all.remove (by decide) [aw1.key]
  obtain ⟨X3, hX3⟩ : ∃ X3, X3 = (X2.rm D2 [aw1.key]).2.1 := ⟨_, rfl⟩
  obtain ⟨D3, hD3⟩ : ∃ D3, D3 = (X2.rm D2 [aw1.key]).2.2 := ⟨_, rfl⟩
  rw [← hX3, ← hD3] at HR hrm
  obtain ⟨r1, r2, r3, r4, r5, r6, r7, r8, r9, r10, r12⟩ := hrm
  have hB3 : X2.B.no aw1.key = X3.B.no aw1.key := by rw [r3]
  rw [hB3] at HR
  have F3 : Hid (X3.G = nolog gSmall ∧ X3.blk.epoch = 1 ∧ X3.blk.reserved = 64 ∧ X3.counts aw1 = false) := by
    refine ⟨by rw [r4]; exact F2.out.2.1, by rw [r10, F2.out.2.2.1]; exact F1.out.2.2.2.1, by rw [r12, F2.out.2.2.1]; exact F1.out.2.2.2.2.1, ?_⟩
    have h9 := r8 aw1.key (List.mem_singleton.2 rfl) T2.out 1 (by rw [F2.out.1]; exact Nat.le_refl _)
    unfold Eng.counts
    rcases h9 with h9 | h9
    · rw [decide_eq_false (by show ¬ X3.blk.horizon < 1; omega)]; rfl
    · rw [show X3.J.gone (Eng.key aw1.key) aw1.ver.toNat = true from h9]; simp
  clear r1 r2 r3 r4 r5 r6 r7 r8 r9 r10 r12 hB3 hX3 hD3 r11
  have L11 := Lib.hid (L10.out.chgNo a11)
  have LX11 := Lib.hid (LX10.out.chgNo a11)
  have LY11 := Lib.hid (LY10.out.chgNo a11)
  clear a11 L10 LX10 LY10 H10
  refine HR.out.mono ?_
  rintro e w12 ⟨t12, rfl, s12⟩
  have L12 := Lib.hid (s12.keep L11.out)
  have LX12 := Lib.hid (s12.keep LX11.out)
  have LY12 := Lib.hid (s12.keep LY11.out)
  have H12 := Lib.hid s12.st
  have HE12 : Hid (t12.E = t.E) := s12.E
  clear s12 HR L11 LX11 LY11
  go_wp2_with fail
  rw [← HE12.out]
  obtain ⟨t1, t2, t3⟩ := aw_told H12.out.all F3.out.1
  rw [F3.out.2.2.2] at t1
  have HG := Lib.hid (H12.out.get HQ.out aw1.key (by decide))
  have hg1 : X3.get D3 aw1.key = Item.zero ∧ X3.getE D3 aw1.key = 5 := by unfold Eng.get Eng.getE; rw [t1]; exact ⟨rfl, rfl⟩
  rw [hg1.1, hg1.2, show itemV Item.zero = .agg #[.string ⟨#[]⟩, .string ⟨#[]⟩, .int .u32 0, .int .i64 0, .int .u64 0] from rfl] at HG
  clear t1 t2 t3 hg1
  refine HG.out.mono ?_
  rintro e w13 ⟨rfl, s13⟩
  have L13 := Lib.hid (s13.keep L12.out)
  have LX13 := Lib.hid (s13.keep LX12.out)
  have LY13 := Lib.hid (s13.keep LY12.out)
  have H13 := Lib.hid s13.st
  clear s13 HG L12 LX12 LY12 H12
  go_wp2_with fail
  have a14 : Chg No w13 (w13.alloc (.cells #[.string ⟨#[]⟩, .string ⟨#[]⟩, .int .u32 0, .int .i64 0, .int .u64 0] tItem)) := (Chg.refl No w13).alloc _
  have HS := Lib.hid ((H13.out.chgNo a14).settle (by decide))
  have hst := H13.out.all.settle (by decide)
  obtain ⟨X4, hX4⟩ : ∃ X4, X4 = X3.stlX D3 := ⟨_, rfl⟩
  obtain ⟨D4, hD4⟩ : ∃ D4, D4 = X3.stlD D3 := ⟨_, rfl⟩
  rw [← hX4, ← hD4] at HS hst
  have F4 : Hid (X4.blk.epoch = 1 ∧ X4.blk.reserved = 64) := by
    obtain ⟨_, _, _, _, q5, _⟩ := hst
    rw [q5]
    exact ⟨F3.out.2.1, F3.out.2.2.1⟩
  have L14 := Lib.hid (L13.out.chgNo a14)
  have LX14 := Lib.hid (LX13.out.chgNo a14)
  have LY14 := Lib.hid (LY13.out.chgNo a14)
  clear a14 hst hX4 hD4 L13 LX13 LY13 H13
  refine HS.out.mono ?_
  rintro e w15 ⟨t15, rfl, s15⟩
  have L15 := Lib.hid (s15.keep L14.out)
  have LX15 := Lib.hid (s15.keep LX14.out)
  have LY15 := Lib.hid (s15.keep LY14.out)
  have H15 := Lib.hid s15.st
  have HE15 : Hid (t15.E = t12.E) := s15.E
  clear s15 HS L14 LX14 LY14
  go_wp2_with fail
  rw [← HE15.out]
  have HW := Lib.hid (H15.out.wipe (by decide))
  obtain ⟨_, _, _, q4⟩ := H15.out.all.run.wipe (by decide)
  obtain ⟨X5, hX5⟩ : ∃ X5, X5 = X4.wipeX D4 := ⟨_, rfl⟩
  obtain ⟨D5, hD5⟩ : ∃ D5, D5 = D4.stD X4.wB := ⟨_, rfl⟩
  rw [← hX5, ← hD5] at HW
  rw [← hX5] at q4
  have F5 : Hid (X5.blk.epoch = 1 ∧ X5.blk.reserved = 64) := by rw [q4]; exact F4.out
  clear q4 hX5 hD5
  refine HW.out.mono ?_
  rintro e w16 ⟨t16, rfl, s16⟩
  have L16 := Lib.hid (s16.keep L15.out)
  have LX16 := Lib.hid (s16.keep LX15.out)
  have LY16 := Lib.hid (s16.keep LY15.out)
  have H16 := Lib.hid s16.st
  have HE16 : Hid (t16.E = t15.E) := s16.E
  clear s16 HW L15 LX15 LY15 H15
  go_wp2_with fail
  rw [← HE16.out]
  have HB := Lib.hid H16.out.block
  obtain ⟨b5, hb5⟩ : ∃ b5, b5 = X5.blk := ⟨_, rfl⟩
  have HB5 := Lib.hid hb5
  rw [← hb5] at HB F5
  clear hb5
  rw [sbV_eq] at HB
  refine HB.out.mono ?_
  rintro e w17 ⟨rfl, hc17⟩
  have L17 := Lib.hid (L16.out.chgNo hc17)
  have LX17 := Lib.hid (LX16.out.chgNo hc17)
  have LY17 := Lib.hid (LY16.out.chgNo hc17)
  have H17 := Lib.hid (H16.out.chgNo hc17)
  clear hc17 HB L16 LX16 LY16 H16
  have HZ := Lib.hid (Blk.new w17 tSb #[.int .u64 0, .int .u64 0, .int .u64 0, .int .u64 0, .int .u64 0, .bool false, .int .i64 0])
  have z0 := HZ.out.cell 0
  have z1 := HZ.out.cell 1
  have z2 := HZ.out.cell 2
  have z3 := HZ.out.cell 3
  have z4 := HZ.out.cell 4
  have z5 := HZ.out.cell 5
  have z6 := HZ.out.cell 6
  have g0 := HZ.out.frozen 0
  have g1 := HZ.out.frozen 1
  have g2 := HZ.out.frozen 2
  have g3 := HZ.out.frozen 3
  have g4 := HZ.out.frozen 4
  have g5 := HZ.out.frozen 5
  have g6 := HZ.out.frozen 6
  simp only [List.getElem?_toArray, List.getElem?_cons_zero, List.getElem?_cons_succ] at z0 z1 z2 z3 z4 z5 z6
  have b0 := L17.out.blk.cell 0
  have b1 := L17.out.blk.cell 1
  have b2 := L17.out.blk.cell 2
  have b3 := L17.out.blk.cell 3
  have b4 := L17.out.blk.cell 4
  have b5_ := L17.out.blk.cell 5
  have b6 := L17.out.blk.cell 6
  have x0 := LX17.out.blk.cell 0
  have x1 := LX17.out.blk.cell 1
  have x2 := LX17.out.blk.cell 2
  have x3 := LX17.out.blk.cell 3
  have x4 := LX17.out.blk.cell 4
  have y0 := LY17.out.blk.cell 0
  have y1 := LY17.out.blk.cell 1
  have y2 := LY17.out.blk.cell 2
  have y3 := LY17.out.blk.cell 3
  have y4 := LY17.out.blk.cell 4
  simp only [List.getElem?_toArray, List.getElem?_cons_zero, List.getElem?_cons_succ] at b0 b1 b2 b3 b4 b5_ b6 x0 x1 x2 x3 x4 y0 y1 y2 y3 y4
  have lb := L17.out.blk.lt
  have lx := LX17.out.blk.lt
  have ly := LY17.out.blk.lt
  have e1 : ¬ bb = w17.heap.size := by omega
  have e2 : ¬ bx = w17.heap.size := by omega
  have e3 : ¬ bY = w17.heap.size := by omega
  have e4 : ¬ w17.heap.size = bb := by omega
  have e5 : ¬ w17.heap.size = bx := by omega
  have e6 : ¬ w17.heap.size = bY := by omega
  go_wp2_with fail
  clear z0 z1 z2 z3 z4 z5 z6 g0 g1 g2 g3 g4 g5 g6 b0 b1 b2 b3 b4 b5_ b6 x0 x1 x2 x3 x4 y0 y1 y2 y3 y4 lb lx ly e1 e2 e3 e4 e5 e6 HZ L17 LX17 LY17
  have a18 : Chg No w17 (w17.alloc (.cells #[.int .u64 b5.seq, .int .u64 b5.epoch, .int .u64 b5.reserved, .int .u64 b5.horizon, .int .u64 b5.gen, .bool b5.clean, .int .i64 5] tSb)) := (Chg.refl No w17).alloc _
  have L18 := Lib.hid (Loc10.new H17.out tSb #[.int .u64 b5.seq, .int .u64 b5.epoch, .int .u64 b5.reserved, .int .u64 b5.horizon, .int .u64 b5.gen, .bool b5.clean, .int .i64 5])
  have H18 := Lib.hid (H17.out.chgNo a18)
  obtain ⟨w18, hw18⟩ : ∃ w18, w18 = w17.alloc (.cells #[.int .u64 b5.seq, .int .u64 b5.epoch, .int .u64 b5.reserved, .int .u64 b5.horizon, .int .u64 b5.gen, .bool b5.clean, .int .i64 5] tSb) := ⟨_, rfl⟩
  obtain ⟨bC, hbC⟩ : ∃ bC, bC = w17.heap.size := ⟨_, rfl⟩
  rw [← hw18, ← hbC] at L18
  rw [← hw18] at H18
  rw [← hw18, ← hbC]
  clear hw18 hbC a18 H17
  have k5 : ((b5.epoch : Nat) : Int) = 1 := by rw [F5.out.1]; rfl
  have k6 : ((b5.reserved : Nat) : Int) = 64 := by rw [F5.out.2]; rfl
  have hfi1 := fun a b c d e f g W => (field_sb a b c d e f g W).1
  have hfi2 := fun a b c d e f g W => (field_sb a b c d e f g W).2.1
  have hfi6 := fun a b c d e f g W => (field_sb a b c d e f g W).2.2
  have HBL := fun W => Lib.hid (fun hc : Chg No w18 W => (H18.out.chgNo hc).block)
  rw [← HB5.out, sbV_eq, k5, k6] at HBL
  refine ((HBL _).out (Chg.refl _ _)).mono ?_
  rintro e w19 ⟨rfl, hc19⟩
  have HC19 := Lib.hid hc19
  clear hc19
  go_wp2_with fail
  refine ((HBL _).out HC19.out).mono ?_
  rintro e w20 ⟨rfl, hc20⟩
  have HC20 := Lib.hid (HC19.out.trans hc20)
  clear hc20 HC19 HBL
  go_wp2_with fail
  refine (HSM _).out.mono ?_
  rintro e w21 ⟨rfl, hc21⟩
  have HC21 := Lib.hid (HC20.out.trans hc21)
  clear hc21 HC20
  go_wp2_with fail
  refine (egood_calls gSmall rfl _).mono ?_
  rintro e w22 ⟨rfl, hc22⟩
  have HC22 := Lib.hid (HC21.out.trans hc22)
  clear hc22 HC21
  go_wp2_with fail
  refine (HSM _).out.mono ?_
  rintro e w23 ⟨rfl, hc23⟩
  have HC23 := Lib.hid (HC22.out.trans hc23)
  clear hc23 HC22
  go_wp2_with fail
  refine (epages_calls gSmall rfl _).mono ?_
  rintro e w24 ⟨rfl, hc24⟩
  have HC24 := Lib.hid (HC23.out.trans hc24)
  have hpg : ((gSmall.pages : Nat) : Int) = 11 := by decide
  rw [hpg]
  clear hc24 HC23 hpg
  have L24 := Lib.hid (L18.out.chgNo HC24.out)
  have c0 := L24.out.blk.cell 0
  have c1 := L24.out.blk.cell 1
  have c2 := L24.out.blk.cell 2
  have c3 := L24.out.blk.cell 3
  have c4 := L24.out.blk.cell 4
  have c5 := L24.out.blk.cell 5
  have c6 := L24.out.blk.cell 6
  simp only [List.getElem?_toArray, List.getElem?_cons_zero, List.getElem?_cons_succ] at c0 c1 c2 c3 c4 c5 c6
  go_wp2_with fail
  have hok5 : b5.Ok := by rw [HB5.out]; exact H18.out.all.run.ok
  have HST := Lib.hid ((H18.out.chgNo HC24.out).set (by decide) { b5 with image := 5 } ⟨hok5.seq, hok5.epoch, hok5.reserved, hok5.horizon, hok5.gen, by show (-9223372036854775808 : Int) ≤ 5; decide, by show (5 : Int) ≤ 9223372036854775807; decide⟩ (by show b5.epoch ≤ _; rw [F5.out.1]; decide) (by rw [HB5.out]) (by rw [HB5.out]) (by rw [HB5.out]))
  have hsv : sbV { b5 with image := 5 } = .agg #[.int .u64 b5.seq, .int .u64 1, .int .u64 64, .int .u64 b5.horizon, .int .u64 b5.gen, .bool b5.clean, .int .i64 5] := by
    rw [sbV_eq, ← k5, ← k6]
  rw [hsv] at HST
  clear hsv
  have hse := H18.out.all.run.set (by decide) { b5 with image := 5 } ⟨hok5.seq, hok5.epoch, hok5.reserved, hok5.horizon, hok5.gen, by show (-9223372036854775808 : Int) ≤ 5; decide, by show (5 : Int) ≤ 9223372036854775807; decide⟩ (by show b5.epoch ≤ _; rw [F5.out.1]; decide) (by show b5.gen ≤ _; rw [HB5.out]; exact Nat.le_succ_of_le H18.out.all.run.gen) (by show b5.reserved ≤ _; rw [F5.out.2]; decide) (by show _ ≤ b5.reserved; rw [HB5.out]; exact H18.out.all.run.last) (by show b5.horizon ≤ _; rw [HB5.out]; exact H18.out.all.run.hor)
  have hi6 : (X5.set D5 { b5 with image := 5 }).blk.image = 5 := by rw [hse.2.1]; rfl
  clear c0 c1 c2 c3 c4 c5 c6 hok5 hse
  refine HST.out.mono ?_
  rintro e w25 ⟨rfl, s25⟩
  have H25 := Lib.hid s25.st
  clear s25 HST
  go_wp2_with fail
  have HBL := Lib.hid H25.out.block
  rw [sbV_eq, hi6] at HBL
  refine HBL.out.mono ?_
  rintro e w26 ⟨rfl, hc26⟩
  have HC26 := Lib.hid (H25.out.chg.trans hc26)
  clear hc26 HBL
  go_wp2_with fail
  go_ret
  exact ⟨rfl, HC26.out⟩
end Go.Proofs.YtplpbbdakihnfaaGreat
end

section
namespace Go.Proofs.YtplpbbdakihnfaaGreat
open Go.RowKit
section
variable {g : Geo} {Q : Item → Prop} {K : ByteArray → Prop} {c : Nat} {X : Eng} {D : Dev} {ls : List (List Item)}
theorem fate_in (a b : Pg) (p : Option UInt8) : Dev.fate a b p = a ∨ Dev.fate a b p = .torn ∨ Dev.fate a b p = b := by
  unfold Dev.fate
  cases p with
  | none => exact .inl rfl
  | some u =>
    simp only
    split
    · exact .inl rfl
    · split
      · exact .inr (.inr rfl)
      · exact .inr (.inl rfl)
def Dev.back (D : Dev) (picks : List UInt8) : Dev := (D.crash picks).on
theorem back_on (D : Dev) (picks : List UInt8) : (D.back picks).On ∧ (D.back picks).n = D.n ∧ (∀ i, (D.back picks).wt i = none) := ⟨⟨rfl, rfl⟩, rfl, fun _ => rfl⟩
theorem back_page (D : Dev) (picks : List UInt8) (i : Nat) : (D.back picks).page i = D.fl i ∨ (D.back picks).page i = .torn ∨ (D.back picks).page i = D.page i := by
  have e : (D.back picks).page i = match D.wt i with | none => D.fl i | some p => Dev.fate (D.fl i) p picks[D.rank i]? := rfl
  rw [e]
  unfold Dev.page
  cases h : D.wt i with
  | none => exact .inl rfl
  | some p => exact fate_in _ _ _
theorem back_still (D : Dev) (picks : List UInt8) {i : Nat} (h : D.wt i = none) : (D.back picks).page i = D.page i := by
  have e : (D.back picks).page i = match D.wt i with | none => D.fl i | some p => Dev.fate (D.fl i) p picks[D.rank i]? := rfl
  rw [e, h]
  exact (Dev.On.fl_page h)
theorem Jns.pages {J : Jn} {D D' : Dev} (h : Jns J D) (hp : ∀ i, J.first ≤ i → i < J.first + J.pages → D'.page i = D.page i) (hw : ∀ i, J.first ≤ i → i < J.first + J.pages → D'.wt i = none) : Jns J D' := by
  refine ⟨h.used, h.gen, ?_, fun i h1 h2 => ?_, hw⟩
  · obtain ⟨ls, q1, q2, q3⟩ := h.pg
    refine ⟨ls, q1, q2, fun i l hi => ?_⟩
    have hlt := (List.getElem?_eq_some_iff.1 hi).1
    have := h.used
    rw [hp _ (by omega) (by omega)]
    exact q3 i l hi
  · rw [hp _ (by omega) (by omega)]; exact h.rest i h1 h2
theorem listL_nil : listL [] = [] := rfl
structure Aft (g : Geo) (Q : Item → Prop) (K : ByteArray → Prop) (X : Eng) (ls : List (List Item)) (Y : Eng) (E : Dev) : Prop where
  on : E.On
  n2 : 2 ≤ E.n
  los : Y.losses = E.losses
  bls : Y.B.losses = E.losses
  cnt : ∀ x, Y.counts x = X.counts x
  b2 : Y.B.fs.length = g.b
  lE : ∀ i : Nat, i < g.b → Y.B.lE E i = 0
  lL : ∀ i : Nat, i < g.b → ∀ x ∈ Y.B.lL E i, Q x ∧ X.B.may x.key = true ∧ ((∃ l, ls[i]? = some l ∧ x ∈ l) ∨ K x.key)
  g2 : Y.G.regs = X.G.regs
  go : Y.G.opn = []
theorem load_rg {P : Nat → Pg} {S : Sealed} (h : RgIs P S) : ldS P = S := by
  rcases h with ⟨rfl, h⟩ | ⟨h1, h2, h3, h4, h5⟩
  · exact (load_blank h).1
  · exact load_back h3 h4 h5 h1 h2
theorem All.back (h : All g Q K c X D ls) (hc : c + 1 ≤ 1000000) (picks : List UInt8) :
    (D.back picks).off = false ∧ g.pages ≤ (D.back picks).n ∧ (D.back picks).sload.seq + 1 < 18446744073709551616 ∧ (D.back picks).sload.epoch + 1 < 18446744073709551616 ∧ (D.back picks).stE (Eng.now (D.back picks)) = 0 ∧
      Aft g Q K X ls (Eng.opened (D.back picks) g) ((D.back picks).stD (Eng.now (D.back picks))) := by
  obtain ⟨o1, o2, o3⟩ := back_on D picks
  have hr := h.run
  have hp := Geo.parts hr.geo
  have hfit := hr.fit
  have hfit' := hfit
  unfold Geo.pages at hfit'
  have hs : (D.back picks).sload = X.blk := by
    rw [← hr.sl]
    refine sload_same hr.on o1 o2 (fun i hi => ?_)
    rcases (by omega : i = 0 ∨ i = 1) with rfl | rfl
    · exact back_still D picks hr.w0
    · exact back_still D picks hr.w1
  have hsq : (D.back picks).sload.seq + 1 < 18446744073709551616 := by rw [hs]; have := hr.seq; omega
  have hep : (D.back picks).sload.epoch + 1 < 18446744073709551616 := by rw [hs]; have := hr.epoch; omega
  have hnow : (Eng.now (D.back picks)).Ok := by
    unfold Eng.now
    rw [hs]
    exact ⟨hr.ok.seq, by have := hr.epoch; show X.blk.epoch + 1 < _; omega, hr.ok.reserved, hr.ok.horizon, hr.ok.gen, hr.ok.image⟩
  obtain ⟨q1, q2, q3, q4, q5⟩ := sb_store o1 (by rw [o2]; exact hr.n2) _ hnow hsq
  refine ⟨o1.off, by rw [o2]; exact hfit, hsq, hep, q1, ?_⟩
  have hY : Eng.opened (D.back picks) g = { Eng.raw (D.back picks) g with blk := (D.back picks).stR (Eng.now (D.back picks)) } := by
    unfold Eng.opened Eng.set
    rw [if_pos q1]
  have hstR : ((D.back picks).stR (Eng.now (D.back picks))).horizon = X.blk.horizon := by
    rw [q3]
    show (Eng.now (D.back picks)).horizon = _
    unfold Eng.now
    rw [hs]
  have hJ : (Eng.raw (D.back picks) g).J = { X.J with losses := (D.back picks).losses } := by
    show Jn.opened (D.back picks) 2 g.j (D.back picks).sload.gen = _
    have hj := (h.jns.pages (D' := D.back picks) (fun i h1 h2 => back_still D picks (h.jns.still i h1 h2)) (fun i _ _ => rfl)).opened o1 (by rw [hr.j1, hr.j2, o2]; omega)
    rw [hs, ← h.jgen, show Jn.opened (D.back picks) 2 g.j X.J.gen = Jn.opened (D.back picks) X.J.first X.J.pages X.J.gen from by rw [hr.j1, hr.j2]]
    exact hj
  rw [hY]
  have hpg : ∀ i, 2 ≤ i → ((D.back picks).stD (Eng.now (D.back picks))).page i = (D.back picks).page i := fun i hi => q4.page i hi
  have hread : ∀ i : Nat, i < g.b → ((D.back picks).stD (Eng.now (D.back picks))).read (((2 + g.j : Nat) : Int) + (i : Int)) = ((D.back picks).page (2 + g.j + i)).data ∧ ((D.back picks).stD (Eng.now (D.back picks))).readE (((2 + g.j : Nat) : Int) + (i : Int)) = ((D.back picks).page (2 + g.j + i)).err := by
    intro i hi
    have e : ((2 + g.j : Nat) : Int) + (i : Int) = ((2 + g.j + i : Nat) : Int) := by omega
    have hrd := q4.on.reads (i := 2 + g.j + i) (by rw [q4.n, o2]; omega)
    rw [e, hrd.1, hrd.2, hpg _ (by omega)]
    exact ⟨rfl, rfl⟩
  have hBf : (Eng.raw (D.back picks) g).B.first = ((2 + g.j : Nat) : Int) := by show (2 + (g.j : Int)) = _; omega
  have hBl : (Eng.raw (D.back picks) g).B.losses = ((D.back picks).stD (Eng.now (D.back picks))).losses := by show (D.back picks).losses = _; rw [q4.los]
  refine ⟨q4.on, by rw [q4.n, o2]; exact hr.n2, by show (D.back picks).losses = _; rw [q4.los], hBl, fun x => ?_, ?_, fun i hi => ?_, fun i hi x hx => ?_, ?_, rfl⟩
  · unfold Eng.counts
    show (decide (((D.back picks).stR (Eng.now (D.back picks))).horizon < x.ver.toNat) && !(Eng.raw (D.back picks) g).J.gone (Eng.key x.key) x.ver.toNat) = _
    rw [hstR, hJ]
    rfl
  · show (Sto.open_ (D.back picks) (2 + g.j) g.b).fs.length = g.b
    unfold Sto.open_
    rw [List.length_map, List.length_range]
  · have hr2 := (hread i hi).2
    show (Eng.raw (D.back picks) g).B.lE _ _ = 0
    unfold Sto.lE
    rw [if_pos hBl, hBf, hr2]
    cases (D.back picks).page (2 + g.j + i) <;> simp [Pg.err]
  · have hr1 := (hread i hi)
    have hx' : x ∈ (Eng.raw (D.back picks) g).B.lL ((D.back picks).stD (Eng.now (D.back picks))) i := hx
    unfold Sto.lL at hx'
    have hlt : i < ls.length := by have := h.bks.bk.len; have := hr.b2; omega
    obtain ⟨l, hl⟩ : ∃ l, ls[i]? = some l := ⟨_, List.getElem?_eq_getElem hlt⟩
    have hin : x ∈ listL ((D.back picks).page (2 + g.j + i)).data := by
      rw [hBf, hr1.1] at hx'
      split at hx'
      · exact hx'
      · cases hx'
    have hof : ∀ {p : Pg} {l' : List Item}, PgIs p l' → x ∈ listL p.data → x ∈ l' := by
      intro p l' hp hx9
      rcases hp with ⟨rfl, rfl⟩ | ⟨b, rfl, hb, _⟩
      · have hx9' : x ∈ listL [] := hx9
        rw [listL_nil] at hx9'
        exact hx9'
      · show x ∈ l'
        have : listL b = l' := by unfold listL; rw [hb]; rfl
        rw [← this]; exact hx9
    rcases back_page D picks (2 + g.j + i) with e | e | e
    · rw [e] at hin
      obtain ⟨l', h1, h2⟩ := h.bks.fl i l hl
      obtain ⟨k1, k2, k3⟩ := h2 x (hof h1 hin)
      exact ⟨k1, k2, k3.imp (fun h9 => ⟨l, hl, h9⟩) id⟩
    · rw [e] at hin
      have hin' : x ∈ listL [] := hin
      rw [listL_nil] at hin'
      cases hin'
    · rw [e] at hin
      have hxl := hof (h.bks.bk.pg i l hl) hin
      exact ⟨h.bks.q i l hl x hxl, h.bks.may_ hl hxl, .inl ⟨l, hl, hxl⟩⟩
  · show opRegs (D.back picks) (2 + g.j + g.b) g.r = X.G.regs
    apply List.ext_getElem?
    intro i
    by_cases hi : i < g.r
    · rw [opRegs_get _ _ _ _ hi]
      have hS := List.getElem?_eq_getElem (l := X.G.regs) (i := i) (by rw [hr.g2]; exact hi)
      rw [hS]
      have h9 := h.lgs.pg i _ hS
      rw [hr.g1] at h9
      have hP : ∀ k, k < 4 → (D.back picks).rpg (2 + g.j + g.b) i k = D.rpg (2 + g.j + g.b) i k := fun k hk => back_still D picks (h.lgs.still _ (by rw [hr.g1]; omega) (by rw [hr.g1, hr.g2]; omega))
      rw [ldS_congr hP, load_rg h9]
    · rw [List.getElem?_eq_none (by rw [opRegs_len]; omega), List.getElem?_eq_none (by rw [hr.g2]; omega)]
end
end Go.Proofs.YtplpbbdakihnfaaGreat
end

section
namespace Go.Proofs.YtplpbbdakihnfaaGreat
open Go.RowKit
section
variable {g : Geo} {Q : Item → Prop} {K : ByteArray → Prop} {c : Nat} {X Y : Eng} {D E : Dev} {ls : List (List Item)}
theorem one_cases {key : ByteArray} {x : Item} (h : X.one D key = some x) : X.counts x = true ∧ ((x = (X.B.get D key).1 ∧ (X.B.get D key).2 = 0) ∨ (x = X.G.get key ∧ X.G.getE key = 0)) := by
  rw [X.one_eq] at h
  have hp : ∀ (o : Option Item) (y : Item) (z : Int), X.pick o y z = some x → o = some x ∨ (x = y ∧ z = 0 ∧ X.counts y = true) := by
    intro o y z h
    unfold Eng.pick at h
    split at h
    · rename_i hc
      cases o with
      | none => right; injection h with h; exact ⟨h.symm, hc⟩
      | some a =>
        simp only at h
        split at h
        · right; injection h with h; exact ⟨h.symm, hc⟩
        · left; exact h
    · left; exact h
  rcases hp _ _ _ h with h1 | ⟨h1, h2, h3⟩
  · rcases hp _ _ _ h1 with h4 | ⟨h4, h5, h6⟩
    · cases h4
    · exact ⟨by rw [h4]; exact h6, .inl ⟨h4, h5⟩⟩
  · exact ⟨by rw [h1]; exact h3, .inr ⟨h1, h2⟩⟩
theorem bget_zero {B : Sto} {key : ByteArray} (h : (B.get D key).2 = 0) : (B.get D key).1 ∈ B.lL D (B.no key) ∧ (B.get D key).1.key = key := by
  unfold Sto.get at h ⊢
  split at h
  · rename_i hm
    rw [if_pos hm]
    split at h
    · rename_i hl
      rw [if_pos hl]
      cases hf : (B.lL D (B.no key)).find? (keyed key) with
      | none => rw [hf] at h; exact absurd h (by decide)
      | some x =>
        simp only
        exact ⟨List.mem_of_find?_eq_some hf, by have := List.find?_some hf; simpa [keyed] using this⟩
    · rename_i hl
      exact absurd h hl
  · exact absurd h (by decide)
theorem bget_in {B : Sto} {key : ByteArray} (hE : B.lE D (B.no key) = 0) : (B.get D key).2 ≠ 4 ∧ ((B.get D key).1 = Item.zero ∨ (B.get D key).1 ∈ B.lL D (B.no key)) := by
  unfold Sto.get
  rw [if_pos hE]
  split
  · cases hf : (B.lL D (B.no key)).find? (keyed key) with
    | none => exact ⟨by decide, .inl rfl⟩
    | some x => exact ⟨by show (0 : Int) ≠ 4; decide, .inr (List.mem_of_find?_eq_some hf)⟩
  · exact ⟨by decide, .inl rfl⟩
theorem view_reg {G : Lg} (ho : G.Ok) (h0 : G.opn = []) {key : ByteArray} {x : Item} (h : G.view key = some x) : ∃ (i j : Nat) (S : Sealed), G.regs[i]? = some S ∧ S.l[j]? = some x ∧ x.key = key := by
  have hk := Lg.view_key ho h
  unfold Lg.view at h
  cases hp : aget G.keys key with
  | none => rw [hp] at h; cases h
  | some p =>
    rw [hp] at h
    simp only [Option.map_some, Option.some.injEq] at h
    have hok := ho.keys key p hp
    unfold Lg.plOk at hok
    unfold Lg.item at h
    split at hok
    · obtain ⟨_, y, hy, _⟩ := hok
      rw [h0] at hy
      cases hy
    · rename_i hop
      rw [if_neg hop] at h
      obtain ⟨S, y, hS, hy, _⟩ := hok
      unfold rl at h
      rw [List.getD_eq_getElem?_getD, List.getD_eq_getElem?_getD, hS] at h
      simp only [Option.getD_some] at h
      rw [hy] at h
      exact ⟨p.rg, p.ix, S, hS, by rw [hy, ← h]; rfl, hk⟩
theorem Lgs.stands {G : Lg} {C : ByteArray → Prop} (h : Lgs Q C c G D) {i j : Nat} {S : Sealed} {x : Item} (hS : G.regs[i]? = some S) (hx : S.l[j]? = some x) : Q x ∧ (C x.key ∨ G.has x.key = true) := by
  refine ⟨h.q i S hS x (List.mem_of_getElem? hx), h.cov.known (p := ⟨false, i, j⟩) ⟨x, rfl, .inr ⟨rfl, ?_, ?_⟩⟩⟩
  · show 0 < rnum G.regs i
    unfold rnum
    rw [List.getD_eq_getElem?_getD, hS]
    show 0 < S.num
    rcases h.pg i S hS with ⟨rfl, _⟩ | ⟨h1, _⟩
    · cases hx
    · exact h1
  · show (rl G.regs i)[j]? = some x
    unfold rl
    rw [List.getD_eq_getElem?_getD, hS]
    exact hx
theorem Aft.told (h : All g Q K c X D ls) (ha : Aft g Q K X ls Y E) (ho : Y.G.Ok) {key : ByteArray} {x : Item} (hx : Y.one E key = some x) :
    x.key = key ∧ Q x ∧ X.counts x = true ∧ X.may key = true ∧ ((∃ (i : Nat) (l : List Item), ls[i]? = some l ∧ x ∈ l) ∨ K x.key ∨ ((∃ (i : Nat) (S : Sealed), X.G.regs[i]? = some S ∧ x ∈ S.l) ∧ X.G.has x.key = true)) := by
  have hp := Geo.parts h.run.geo
  obtain ⟨h1, h2⟩ := one_cases hx
  rw [ha.cnt] at h1
  rcases h2 with ⟨h3, h4⟩ | ⟨h3, h4⟩
  · obtain ⟨h5, h6⟩ := bget_zero h4
    rw [← h3] at h5 h6
    have hno : Y.B.no key < g.b := by rw [← ha.b2]; exact Y.B.no_lt (by rw [ha.b2]; omega) key
    obtain ⟨k1, k2, k3⟩ := ha.lL _ hno x h5
    refine ⟨h6, k1, h1, ?_, k3.imp (fun ⟨l, q1, q2⟩ => ⟨_, l, q1, q2⟩) .inl⟩
    unfold Eng.may
    rw [← h6, k2]; rfl
  · have hv : Y.G.view key = some x := by
      have h5 := (Y.G.get_view key)
      rw [h4] at h5
      cases hw : Y.G.view key with
      | none => rw [hw] at h5; exact absurd h5.2 (by decide)
      | some y => rw [hw] at h5; rw [h3, h5.1]; rfl
    obtain ⟨i, j, S, hS, hj, hk⟩ := view_reg ho ha.go hv
    rw [ha.g2] at hS
    obtain ⟨k1, k2⟩ := h.lgs.stands hS hj
    refine ⟨hk, k1, h1, ?_, ?_⟩
    · unfold Eng.may
      rw [← hk]
      rcases k2 with k2 | k2
      · have k3 : X.B.may x.key = true := k2.1
        rw [k3]; rfl
      · rw [k2]; simp
    · rcases k2 with k2 | k2
      · exact .inr (.inl k2.2)
      · exact .inr (.inr ⟨⟨i, S, hS, List.mem_of_getElem? hj⟩, k2⟩)
theorem Aft.items (h : All g Q K c X D ls) (ha : Aft g Q K X ls Y E) (ho : Y.G.Ok) {x : Item} (hx : x ∈ Y.items E) : Y.one E x.key = some x := by
  have := (List.mem_filter.1 hx).2
  unfold Eng.tells at this
  simp only [Bool.and_eq_true, decide_eq_true_eq] at this
  exact this.1
theorem Aft.get_key (h : All g Q K c X D ls) (ha : Aft g Q K X ls Y E) (ho : Y.G.Ok) (hQ : ∀ x, Q x → x.good = true) (key : ByteArray) : (Y.B.get E key).2 ≠ 4 ∧ (Y.B.get E key).1.key.size ≤ 140737488351232 ∧ (Y.G.get key).key.size ≤ 140737488351232 := by
  have hp := Geo.parts h.run.geo
  have hno : Y.B.no key < g.b := by rw [← ha.b2]; exact Y.B.no_lt (by rw [ha.b2]; omega) key
  obtain ⟨h1, h2⟩ := bget_in (B := Y.B) (D := E) (key := key) (ha.lE _ hno)
  refine ⟨h1, ?_, ?_⟩
  · rcases h2 with h2 | h2
    · rw [h2]; decide
    · have := (good_key (hQ _ (ha.lL _ hno _ h2).1)).1
      omega
  · rw [(Y.G.get_view key).1]
    cases hv : Y.G.view key with
    | none => show Item.zero.key.size ≤ _; decide
    | some x =>
      obtain ⟨i, j, S, hS, hj, hk⟩ := view_reg ho ha.go hv
      rw [ha.g2] at hS
      have := (good_key (hQ _ (h.lgs.stands hS hj).1)).1
      show x.key.size ≤ _
      omega
theorem counts_no {x : Item} (h : x.ver.toNat ≤ X.blk.horizon ∨ X.J.gone (Eng.key x.key) x.ver.toNat = true) : X.counts x = false := by
  unfold Eng.counts
  rcases h with h | h
  · rw [decide_eq_false (by omega)]; rfl
  · rw [h]; simp
end
end Go.Proofs.YtplpbbdakihnfaaGreat
end

section
namespace Go.Proofs.YtplpbbdakihnfaaGreat
open Go.RowKit
attribute [local go_sem ↓] Go.wp_at_zero Go.wp_at_succ
def Calls10 (xs : List Value) (l : List (Int × Item)) : Prop := ∀ (i : Nat) (p : Int × Item), l[i]? = some p → xs[i * 12]? = some (.int .i64 p.1) ∧ xs[i * 12 + 1]? = some (.string p.2.key) ∧ xs[i * 12 + 2]? = some (.string p.2.val) ∧ xs[i * 12 + 3]? = some (.int .u32 p.2.flags.toNat) ∧ xs[i * 12 + 4]? = some (.int .i64 p.2.exp.toInt) ∧ xs[i * 12 + 5]? = some (.int .u64 p.2.ver.toNat)
def PutQ (Q : Item → Prop) (l : List (Int × Item)) (k a b : Nat) : Item → Prop := fun y => Q y ∨ (y.good = true ∧ a < y.ver.toNat ∧ y.ver.toNat ≤ b ∧ ∃ (i : Nat) (p : Int × Item), i < k ∧ l[i]? = some p ∧ y.key = p.2.key)
theorem PutQ.mono {Q : Item → Prop} {l : List (Int × Item)} {k k' a b b' : Nat} (hk : k ≤ k') (hb : b ≤ b') {y : Item} (h : PutQ Q l k a b y) : PutQ Q l k' a b' y := by
  rcases h with h | ⟨h1, h2, h3, i, p, h4, h5⟩
  · exact .inl h
  · exact .inr ⟨h1, h2, by omega, i, p, by omega, h5⟩
def newer (x : Item) (v : Nat) : Item := { x with ver := UInt64.ofNat v }
section
variable {w0 w w1 w2 w' : World} {h : DevH} {t t1 t2 t' : EngH} {g : Geo} {Q Q1 Q2 : Item → Prop} {K : ByteArray → Prop} {c c1 c2 : Nat} {X X1 X2 : Eng} {D D1 D2 : Dev} {ls ls1 ls2 : List (List Item)}
theorem Hgo.trans (S : Hgo w0 w h t g Q1 K c1 X1 D1 ls1 t1 w1) (S2 : Hgo w0 w1 h t1 g Q2 K c2 X2 D2 ls2 t2 w2) : Hgo w0 w h t g Q2 K c2 X2 D2 ls2 t2 w2 :=
  ⟨S2.st, S.chg.then S2.chg (fun i hi hk => (S.grow i hk).elim id (fun h9 => by omega)), fun k hk => (S2.grow k hk).elim (S.grow k) (fun h9 => .inr (Nat.le_trans S.chg.size h9)), S2.E.trans S.E⟩
theorem Hgo.no (S : Hgo w0 w h t g Q K c X D ls t' w1) (hc : Chg No w1 w2) : Hgo w0 w h t g Q K c X D ls t' w2 := ⟨S.st.chgNo hc, S.chg.trans (hc.mono (fun _ _ h => h.elim)), S.grow, S.E⟩
theorem All.quo (h : All g Q K c X D ls) (hq : ∀ x, Q x → Q1 x) (hc : c ≤ c1) (hf : c1 ≤ 1000000) : All g Q1 K c1 X D ls := h.mono hq hc hf
theorem Hgo.quo (S : Hgo w0 w h t g Q K c X D ls t' w1) (hq : ∀ x, Q x → Q1 x) (hc : c ≤ c1) (hf : c1 ≤ 1000000) : Hgo w0 w h t g Q1 K c1 X D ls t' w1 := ⟨⟨S.st.dev, S.st.eng, S.st.all.mono hq hc hf, S.st.far, S.st.chg⟩, S.chg, S.grow, S.E⟩
theorem Hgo.rfl_ (H : Heng w0 h t g Q K c X D ls w) : Hgo w0 w h t g Q K c X D ls t w := ⟨H, Chg.refl _ _, fun _ hk => .inl hk, rfl⟩
structure PutSt (w0 w : World) (h : DevH) (t : EngH) (g : Geo) (Q : Item → Prop) (K : ByteArray → Prop) (c : Nat) (X : Eng) (l : List (Int × Item)) (l0 k lr : Nat) (wr : World) (t' : EngH) (X' : Eng) (D' : Dev) (ls' : List (List Item)) : Prop where
  go : Hgo w0 w h t g (PutQ Q l k X.last X'.last) K (c + 2 * k) X' D' ls' t' wr
  J : X'.J = X.J
  hor : X'.blk.horizon = X.blk.horizon
  last : X.last ≤ X'.last
  lr : (lr = l0 ∧ X'.last = X.last) ∨ lr = X'.last
theorem newer_ver (x : Item) {v : Nat} (h : v < 18446744073709551616) : (newer x v).ver.toNat = v := by
  show (UInt64.ofNat v).toNat = v
  rw [UInt64.toNat_ofNat']
  exact Nat.mod_eq_of_lt h
theorem ver_facts (H : Heng w0 h t g Q K c X D ls w) (hc : c + 1 ≤ 1000000) : (X.verX D).last = X.last + 1 ∧ (X.verX D).J = X.J ∧ (X.verX D).blk.horizon = X.blk.horizon := by
  obtain ⟨_, _, _, _, v5, v6, _, _, v9, _⟩ := H.all.run.version hc
  exact ⟨v5, v6, v9⟩
theorem Heng.putAny (H : Heng w0 h t g Q K c X D ls w) (hc : c + 1 ≤ 1000000) (y : Item) (hk : y.key.size ≤ 140737488351232) (hv : y.val.size ≤ 140737488351232) (hnew : ¬ Q y) (hK : ∀ z, Q z → z.key = y.key → K y.key) :
    Calls Tryz.prog 16 #[.pointer (some ⟨t.E, 0, none⟩), itemV y] w fun e w' => ∃ er t' X' D' ls', e = .returned (.int .i64 er) ∧ Hgo w0 w h t g (fun z => Q z ∨ (z = y ∧ y.good = true)) K (c + 1) X' D' ls' t' w' ∧ X'.J = X.J ∧ X'.blk = X.blk ∧ X'.last = X.last ∧ (er = 0 ↔ (y.good = true ∧ y.size ≤ 1472)) := by
  by_cases hg : y.good = true
  · by_cases hs : y.size ≤ 1472
    · obtain ⟨l, hl⟩ := H.all.bks.get_ y.key
      by_cases h1 : y.size ≤ 120
      · obtain ⟨_, _, _, q4, _⟩ := H.all.small hc hg h1 hnew hK hl
        refine (H.small hc hg h1 hnew hK hl).mono ?_
        rintro e w' ⟨rfl, s⟩
        exact ⟨0, t, _, _, _, rfl, s.quo (fun z hz => hz.imp id (fun e => ⟨e, hg⟩)) (Nat.le_refl _) hc, by rw [q4], by rw [q4], by rw [q4], by simp [hg, hs]⟩
      · refine (H.great hc hg (by omega) hs hnew hK hl).mono ?_
        rintro e w' ⟨t', rfl, s⟩
        exact ⟨0, t', _, _, _, rfl, s.quo (fun z hz => hz.imp id (fun e => ⟨e, hg⟩)) (Nat.le_refl _) hc, rfl, rfl, rfl, by simp [hg, hs]⟩
    · refine (H.bad y hk hv (.inr (by omega))).mono ?_
      rintro e w' ⟨rfl, hch⟩
      exact ⟨_, t, X, D, ls, rfl, ((Hgo.rfl_ H).no hch).quo (fun z hz => .inl hz) (Nat.le_succ c) hc, rfl, rfl, rfl, by simp [hg, hs]⟩
  · have hgf : y.good = false := by simpa using hg
    refine (H.bad y hk hv (.inl hgf)).mono ?_
    rintro e w' ⟨rfl, hch⟩
    exact ⟨_, t, X, D, ls, rfl, ((Hgo.rfl_ H).no hch).quo (fun z hz => .inl hz) (Nat.le_succ c) hc, rfl, rfl, rfl, by simp [hgf]⟩
theorem PutSt.next {l : List (Int × Item)} {l0 k lr lr' : Nat} {wr w3 : World} {X' X3 : Eng} {D' D3 : Dev} {ls' ls3 : List (List Item)} {t3 : EngH} {c3 : Nat} {Q3 : Item → Prop} (S : PutSt w0 w h t g Q K c X l l0 k lr wr t' X' D' ls') (S3 : Hgo w0 wr h t' g Q3 K c3 X3 D3 ls3 t3 w3)
    (hq : ∀ y, Q3 y → PutQ Q l (k + 1) X.last X3.last y) (hc : c3 ≤ c + 2 * (k + 1)) (hf : c + 2 * (k + 1) ≤ 1000000) (hJ : X3.J = X'.J) (hh : X3.blk.horizon = X'.blk.horizon) (hl : X'.last ≤ X3.last) (hlr : (lr' = l0 ∧ X3.last = X.last) ∨ lr' = X3.last) :
    PutSt w0 w h t g Q K c X l l0 (k + 1) lr' w3 t3 X3 D3 ls3 :=
  ⟨(S.go.trans S3).quo hq hc hf, hJ.trans S.J, hh.trans S.hor, Nat.le_trans S.last hl, hlr⟩
set_option maxRecDepth 100000 in
set_option maxHeartbeats 4000000 in
theorem put10_calls (H : Heng w0 h t g Q K c X D ls w) (A : Option Addr) (n cp : Nat) (xs : List Value) (l : List (Int × Item)) (te : TypeId) (hn : l.length = n) (hr : Rd w0 te A (n * 12) xs) (hxs : Calls10 xs l) (hn2 : n ≤ 1000)
    (hsz : ∀ p ∈ l, p.2.key.size ≤ 140737488351232 ∧ p.2.val.size ≤ 140737488351232) (hc : c + 2 * n ≤ 1000000) (hQ : ∀ y, Q y → y.ver.toNat ≤ X.last)
    (hK1 : ∀ (i j : Nat) (p q : Int × Item), i < j → l[i]? = some p → l[j]? = some q → p.2.key = q.2.key → K q.2.key) (hK2 : ∀ y, Q y → ∀ p ∈ l, y.key = p.2.key → K p.2.key) (l0 : Nat) :
    Calls Tryz.prog 22 #[.pointer (some ⟨t.E, 0, none⟩), .slice A n cp, .int .u64 l0] w fun e w' => ∃ lr t' X' D' ls', e = .returned (.int .u64 (lr : Nat)) ∧ PutSt w0 w h t g Q K c X l l0 n lr w' t' X' D' ls' := by
  have HR := Lib.hid hr
  have HX := Lib.hid hxs
  have HN := Lib.hid hn
  have HSZ := Lib.hid hsz
  have HQ := Lib.hid hQ
  have HK1 := Lib.hid hK1
  have HK2 := Lib.hid hK2
  have H0 := Lib.hid H
  clear hr hxs hn hsz hQ hK1 hK2 H
  go_enter Tryz.func22, Tryz.ntmps22
  go_wp2_with fail
  go_loopg [2, 7] n (fun gg v2 v7 wr => ∃ (k lr : Nat), v7 = .int .i64 k ∧ v2 = .int .u64 lr ∧ k ≤ n ∧ n - k = gg ∧ Hid (∃ t' X' D' ls', PutSt w0 w h t g Q K c X l l0 k lr wr t' X' D' ls'))
  case atStart => exact ⟨0, l0, rfl, rfl, by omega, by omega, t, X, D, ls, (Hgo.rfl_ H0.out).quo (fun y hy => .inl hy) (by omega) (by omega), rfl, rfl, Nat.le_refl _, .inl ⟨rfl, rfl⟩⟩
  case round =>
    obtain ⟨k, lr, rfl, rfl, hk, hg, HH⟩ := hrel
    obtain ⟨t', X', D', ls', S⟩ := HH.out
    have HS := Lib.hid S
    by_cases hkl : k < n
    · obtain ⟨⟨op, x⟩, hx⟩ : ∃ x, l[k]? = some x := ⟨_, List.getElem?_eq_getElem (by rw [HN.out]; exact hkl)⟩
      obtain ⟨hs1, hs2⟩ := HSZ.out _ (List.mem_of_getElem? hx)
      simp only at hs1 hs2
      obtain ⟨gy, oy, eA, hgy, hcy⟩ := (HR.out.chg S.go.st.chg (fun _ _ _ _ h => h)).at_ (j := k * 12) (by omega)
      subst eA
      obtain ⟨q0, q1, q2, q3, q4, q5⟩ := HX.out k _ hx
      have d0 := hcy _ _ q0
      have HE : Hid (t'.E = t.E) := S.go.E
      have HXI := Lib.hid hx
      have HCY : Hid (∀ W, Chg No w0 W → ∀ (j : Nat) (u : Value), xs[j]? = some u → W.cell? ⟨gy, oy + j, none⟩ = some u) := fun W hW j u hu => by
        have hlen : xs.length = n * 12 := HR.out.1
        have hj : j < n * 12 := by rw [← hlen]; exact (List.getElem?_eq_some_iff.1 hu).1
        obtain ⟨g2, o2, e2, _, hc2⟩ := (HR.out.chg hW (fun _ _ _ _ h => h)).at_ hj
        injection e2 with e2
        injection e2 with e3 e4
        subst e3
        subst e4
        exact hc2 j u hu
      clear S HH
      by_cases h5 : op = 5
      · subst h5
        try simp only at d0
        have HT := Lib.hid (HS.out.go.st.settle (by omega))
        rw [HE.out] at HT
        clear q0 q1 q2 q3 q4 q5 hcy
        go_wp2_with fail
        refine HT.out.mono ?_
        rintro e w3 ⟨t3, rfl, s3⟩
        have HS3 := Lib.hid s3
        clear s3 HT
        go_wp2_with fail
        obtain ⟨_, _, _, z2, z3, z4, _⟩ := HS.out.go.st.all.settle (by omega)
        go_roundg (n - (k + 1))
        case measure => omega
        case rel =>
          exact ⟨k + 1, lr, by go_num, rfl, by omega, rfl, t3, _, _, _, HS.out.next HS3.out (fun y hy => by rw [z4]; exact PutQ.mono (Nat.le_succ k) (Nat.le_refl _) hy) (by omega) (by omega) z2 (by rw [z3]) (by rw [z4]; exact Nat.le_refl _) (by rw [z4]; exact HS.out.lr)⟩
      · have hb5 : (op == 5) = false := by simpa using h5
        try simp only at d0
        have HV := Lib.hid (HS.out.go.st.version (by omega))
        obtain ⟨f1, f2, f3⟩ := ver_facts HS.out.go.st (by omega)
        obtain ⟨X3, hX3⟩ : ∃ X3, X3 = X'.verX D' := ⟨_, rfl⟩
        obtain ⟨D3, hD3⟩ : ∃ D3, D3 = X'.verD D' := ⟨_, rfl⟩
        rw [← hX3, ← hD3, HE.out] at HV
        rw [← hX3] at f1 f2 f3
        have hvb : X'.last + 1 < 18446744073709551616 := by
          have h1 := HS.out.go.st.all.run.last
          have h2 := HS.out.go.st.all.run.res
          omega
        obtain ⟨v, hv⟩ : ∃ v, v = X'.last + 1 := ⟨_, rfl⟩
        rw [← hv] at HV f1 hvb
        have F := Lib.hid (And.intro hv (And.intro f1 (And.intro f2 (And.intro f3 hvb))))
        clear hX3 hD3 f1 f2 f3 hvb hv hcy
        have Q1 := Lib.hid (And.intro q1 (And.intro q2 (And.intro q3 (And.intro q4 q5))))
        clear q0 q1 q2 q3 q4 q5
        go_wp2_with fail
        refine HV.out.mono ?_
        rintro e w3 ⟨rfl, s3⟩
        have HS3 := Lib.hid s3
        have d1 := HCY.out w3 s3.st.chg _ _ Q1.out.1
        have d2 := HCY.out w3 s3.st.chg _ _ Q1.out.2.1
        have d3 := HCY.out w3 s3.st.chg _ _ Q1.out.2.2.1
        have d4 := HCY.out w3 s3.st.chg _ _ Q1.out.2.2.2.1
        have d5 := HCY.out w3 s3.st.chg _ _ Q1.out.2.2.2.2
        simp only [← Nat.add_assoc] at d1 d2 d3 d4 d5
        clear s3 HV d0 hb5
        have HZ := Lib.hid (Blk.new w3 tItem #[.string ⟨#[]⟩, .string ⟨#[]⟩, .int .u32 0, .int .i64 0, .int .u64 0])
        have z0 := HZ.out.cell 0
        have z1 := HZ.out.cell 1
        have z2 := HZ.out.cell 2
        have z3 := HZ.out.cell 3
        have z4 := HZ.out.cell 4
        have g0 := HZ.out.frozen 0
        have g1 := HZ.out.frozen 1
        have g2 := HZ.out.frozen 2
        have g3 := HZ.out.frozen 3
        have g4 := HZ.out.frozen 4
        simp only [List.getElem?_toArray, List.getElem?_cons_zero, List.getElem?_cons_succ] at z0 z1 z2 z3 z4
        go_wp2_with fail
        have hvi : itemV (newer x v) = .agg #[.string x.key, .string x.val, .int .u32 x.flags.toNat, .int .i64 x.exp.toInt, .int .u64 v] := by
          show Value.agg #[.string x.key, .string x.val, .int .u32 x.flags.toNat, .int .i64 x.exp.toInt, .int .u64 (UInt64.ofNat v).toNat] = _
          rw [show (UInt64.ofNat v).toNat = v from newer_ver x F.out.2.2.2.2]
        have hnv := newer_ver x F.out.2.2.2.2
        have a4 : Chg No w3 (w3.alloc (.cells #[.string x.key, .string x.val, .int .u32 x.flags.toNat, .int .i64 x.exp.toInt, .int .u64 v] tItem)) := (Chg.refl No w3).alloc _
        have hx := HXI.out
        have HP := Lib.hid ((HS3.out.no a4).st.putAny (by omega) (newer x v) hs1 hs2 (by
          rintro (h9 | ⟨_, _, h9, _⟩)
          · have h8 := HQ.out _ h9
            rw [hnv] at h8
            have := HS.out.last
            have := F.out.1
            omega
          · rw [hnv] at h9
            have := F.out.1
            omega) (fun z hz hzk => by
          rcases hz with hz | ⟨_, _, _, i, p, hi, hp, hpk⟩
          · exact HK2.out z hz _ (List.mem_of_getElem? hx) hzk
          · exact HK1.out i k p (op, x) hi hp hx (hpk.symm.trans hzk)))
        rw [hvi, HE.out] at HP
        clear hvi a4 hx z0 z1 z2 z3 z4 g0 g1 g2 g3 g4 HZ d1 d2 d3 d4 d5
        refine HP.out.mono ?_
        rintro e w6 ⟨er, t6, X6, D6, ls6, rfl, s6, e1, e2, e3, _⟩
        have HS6 := Lib.hid ((HS3.out.no ((Chg.refl No w3).alloc (.cells #[.string x.key, .string x.val, .int .u32 x.flags.toNat, .int .i64 x.exp.toInt, .int .u64 v] tItem))).trans s6)
        have F6 := Lib.hid (And.intro e1 (And.intro e2 e3))
        have HNV := Lib.hid hnv
        clear s6 e1 e2 e3 HP hnv
        go_wp2_with fail
        go_roundg (n - (k + 1))
        case measure => omega
        case rel =>
          have hl6 : X6.last = v := F6.out.2.2.trans F.out.2.1
          refine ⟨k + 1, v, by go_num, rfl, by omega, rfl, t6, X6, D6, ls6, HS.out.next HS6.out (fun y hy => ?_) (by omega) (by omega) (F6.out.1.trans F.out.2.2.1) (by rw [F6.out.2.1]; exact F.out.2.2.2.1) (by rw [hl6, F.out.1]; omega) (.inr hl6.symm)⟩
          rw [hl6]
          rcases hy with hy | ⟨hy, hgd⟩
          · exact PutQ.mono (Nat.le_succ k) (by rw [F.out.1]; omega) hy
          · rw [hy]
            exact .inr ⟨hgd, by rw [HNV.out, F.out.1]; have := HS.out.last; omega, by rw [HNV.out]; exact Nat.le_refl _, k, (op, x), Nat.lt_succ_self k, HXI.out, rfl⟩
    · obtain rfl : k = n := by omega
      go_wp2_with fail
      refine bodyPost_ret (v := .int .u64 lr) (by simp [results, Tryz.results22, go_sem]) rfl ⟨lr, t', X', D', ls', rfl, HS.out⟩
end
end Go.Proofs.YtplpbbdakihnfaaGreat
end

section
namespace Go.Proofs.YtplpbbdakihnfaaGreat
open Go.RowKit Go.Maps
open Go.WideElems (Fit rd rg)
def oneR : Value → Option (DataW Unit × List MemPlace) := fun _ => some (.lit (.bool true), [])
def keyInt : Value → Int
  | .int _ a => a
  | _ => 0
theorem MapIs.owns {P : Program} {kt : TypeId} {w : World} {b : Nat} {es : List (Int × Value)} (h : MapIs ikey w b es) (hk : P.underlying kt = some (.int .i64)) (hwf : ∀ p ∈ es, (Lit.int .i64 p.1).wf = true) (hmax : es.length ≤ maxLen) :
    ∃ D0 : DataW Unit, w.ownsMap P kt oneR b es.length D0 ∧ (intKeys D0).Perm (akeys es) ∧ Maps.size D0 = es.length := by
  obtain ⟨arr, clock, hb, hl, hnd, hborn, hlt⟩ := h
  have hlen : arr.size = es.length := by
    have := congrArg List.length hl
    simpa using this
  have hkeys : arr.toList.map (·.key) = es.map (fun p => ikey p.1) := by
    have := congrArg (List.map Prod.fst) hl
    simpa [List.map_map, Function.comp_def] using this
  have hread : ∀ x ∈ arr.toList, ∃ a, x.key = ikey a ∧ rd P kt oneR x = some (.int .i64 a, .lit (.bool true)) := by
    intro x hx
    have : x.key ∈ arr.toList.map (·.key) := List.mem_map_of_mem hx
    rw [hkeys] at this
    obtain ⟨p, hp, he⟩ := List.mem_map.1 this
    refine ⟨p.1, he.symm, ?_⟩
    unfold rd
    rw [← he, keyOf_int_mk hk (hwf p hp)]
    rfl
  refine ⟨.map ((arr.toList.map (rg P kt oneR)).foldr DataW.insert []), ⟨arr, clock, hb, ⟨by rw [hlen]; exact hmax, ⟨hlt, hborn, ?_⟩, fun x hx => ?_⟩, by rw [hlen]; exact Nat.le_refl _, rfl⟩, ?_, ?_⟩
  · rw [hkeys]
    have : es.map (fun p => ikey p.1) = (es.map (·.1)).map ikey := by rw [List.map_map]; rfl
    rw [this]
    refine List.pairwise_map.2 (hnd.imp fun {a b} hne he => hne ?_)
    simpa [ikey] using he
  · obtain ⟨a, _, hr⟩ := hread x hx
    exact ⟨_, hr⟩
  · show (((arr.toList.map (rg P kt oneR)).foldr DataW.insert []).map fun p => _root_.Go.intOf p.1).Perm _
    refine ((Go.WideShapes.sorted_perm _).map _).trans ?_
    have e1 : (arr.toList.map (rg P kt oneR)).map (fun p => _root_.Go.intOf p.1) = (arr.toList.map (·.key)).map keyInt := by
      rw [List.map_map, List.map_map]
      refine List.map_congr_left fun x hx => ?_
      obtain ⟨a, hx1, hr⟩ := hread x hx
      show _root_.Go.intOf (rg P kt oneR x).1 = keyInt x.key
      unfold rg
      rw [hr, hx1]
      rfl
    rw [e1, hkeys, List.map_map]
    have e2 : es.map (keyInt ∘ fun p => ikey p.1) = akeys es := rfl
    rw [e2]
  · show ((arr.toList.map (rg P kt oneR)).foldr DataW.insert []).length = es.length
    rw [(Go.WideShapes.sorted_perm _).length_eq]
    simp [hlen]
end Go.Proofs.YtplpbbdakihnfaaGreat
end

section
namespace Go.Proofs
open Go.Shelf
def Tryz.keysA_ren : Go.Shelf.Ren := ⟨fun | 7 => 110 | 10 => 125 | n => n, fun | 23 => 74 | 26 => 3 | 3 => 142 | 28 => 180 | 0 => 0 | 27 => 179 | 33 => 155 | 4 => 4 | n => n, fun | n => n⟩
theorem Tryz.keysA : Go.Proofs.SlLaysZI.n7 Tryz.prog Tryz.keysA_ren := {
  mixed := by kernel_rfl
  f7 := ⟨Tryz.f110.name, by decide, Tryz.func110.trans (congrArg some (by kernel_rfl))⟩
  f10 := ⟨Tryz.f125.name, by decide, Tryz.func125.trans (congrArg some (by kernel_rfl))⟩
  t0 := Tryz.underlying0
  a0 := Tryz.isAgg0
  z0 := Tryz.sizeOf0
  v0 := Tryz.zeroValue0
  t4 := Tryz.underlying4
  a4 := Tryz.isAgg4
  z4 := Tryz.sizeOf4
  v4 := Tryz.zeroValue4
  t23 := Tryz.underlying74
  a23 := Tryz.isAgg74
  z23 := Tryz.sizeOf74
  v23 := Tryz.zeroValue74
  t26 := Tryz.underlying3
  a26 := Tryz.isAgg3
  z26 := Tryz.sizeOf3
  v26 := Tryz.zeroValue3
  t27 := Tryz.underlying179
  a27 := Tryz.isAgg179
  z27 := Tryz.sizeOf179
  v27 := Tryz.zeroValue179
  t28 := Tryz.underlying180
  a28 := Tryz.isAgg180
  z28 := Tryz.sizeOf180
  v28 := Tryz.zeroValue180
  t33 := Tryz.underlying155
  a33 := Tryz.isAgg155
  z33 := Tryz.sizeOf155
  v33 := Tryz.zeroValue155 }
def Tryz.sortedA_ren : Go.Shelf.Ren := ⟨fun | 6 => 109 | 8 => 123 | 9 => 124 | 11 => 130 | 13 => 132 | 12 => 131 | 23 => 143 | 24 => 144 | 14 => 134 | 15 => 135 | 16 => 136 | 17 => 137 | 18 => 138 | 19 => 139 | 20 => 140 | 21 => 141 | 22 => 142 | 25 => 146 | 26 => 147 | 27 => 148 | 28 => 149 | 29 => 150 | 30 => 151 | 31 => 152 | n => n, fun | 26 => 3 | 28 => 180 | 24 => 66 | 0 => 0 | 3 => 3 | 37 => 68 | 48 => 37 | 50 => 28 | 4 => 4 | 40 => 198 | 39 => 197 | 45 => 203 | 5 => 5 | 9 => 9 | 51 => 207 | 55 => 211 | 57 => 213 | 58 => 214 | 33 => 155 | n => n, fun | n => n⟩
theorem Tryz.sortedA : Go.Proofs.SlLaysZI.n6 Tryz.prog Tryz.sortedA_ren := {
  mixed := by kernel_rfl
  f6 := ⟨Tryz.f109.name, by decide, Tryz.func109.trans (congrArg some (by kernel_rfl))⟩
  f8 := ⟨Tryz.f123.name, by decide, Tryz.func123.trans (congrArg some (by kernel_rfl))⟩
  f11 := ⟨Tryz.f130.name, by decide, Tryz.func130.trans (congrArg some (by kernel_rfl))⟩
  t0 := Tryz.underlying0
  a0 := Tryz.isAgg0
  z0 := Tryz.sizeOf0
  v0 := Tryz.zeroValue0
  t24 := Tryz.underlying66
  a24 := Tryz.isAgg66
  z24 := Tryz.sizeOf66
  v24 := Tryz.zeroValue66
  t26 := Tryz.underlying3
  a26 := Tryz.isAgg3
  z26 := Tryz.sizeOf3
  v26 := Tryz.zeroValue3
  t28 := Tryz.underlying180
  a28 := Tryz.isAgg180
  z28 := Tryz.sizeOf180
  v28 := Tryz.zeroValue180
  i26 := by kernel_rfl }
def Tryz.sortA_ren : Go.Shelf.Ren := ⟨fun | 5 => 124 | 8 => 132 | 7 => 131 | 19 => 143 | 20 => 144 | 10 => 134 | 11 => 135 | 12 => 136 | 13 => 137 | 14 => 138 | 15 => 139 | 16 => 140 | 17 => 141 | 18 => 142 | 30 => 146 | 31 => 147 | 32 => 148 | 33 => 149 | 34 => 150 | 35 => 151 | 40 => 152 | n => n, fun | 23 => 66 | 25 => 3 | 3 => 3 | 32 => 68 | 22 => 66 | 0 => 0 | 44 => 37 | 46 => 28 | 4 => 4 | 36 => 198 | 35 => 197 | 41 => 203 | 5 => 5 | 9 => 9 | 53 => 207 | 57 => 211 | 63 => 213 | 64 => 214 | n => n, fun | n => n⟩
theorem Tryz.sortA : Go.Proofs.SlLaysM.n5 Tryz.prog Tryz.sortA_ren := {
  mixed := by kernel_rfl
  f5 := ⟨Tryz.f124.name, by decide, Tryz.func124.trans (congrArg some (by kernel_rfl))⟩
  f7 := ⟨Tryz.f131.name, by decide, Tryz.func131.trans (congrArg some (by kernel_rfl))⟩
  f8 := Tryz.func132.trans (congrArg some (by kernel_rfl))
  f10 := ⟨Tryz.f134.name, by decide, Tryz.func134.trans (congrArg some (by kernel_rfl))⟩
  f11 := ⟨Tryz.f135.name, by decide, Tryz.func135.trans (congrArg some (by kernel_rfl))⟩
  f12 := ⟨Tryz.f136.name, by decide, Tryz.func136.trans (congrArg some (by kernel_rfl))⟩
  f13 := ⟨Tryz.f137.name, by decide, Tryz.func137.trans (congrArg some (by kernel_rfl))⟩
  f14 := ⟨Tryz.f138.name, by decide, Tryz.func138.trans (congrArg some (by kernel_rfl))⟩
  f15 := ⟨Tryz.f139.name, by decide, Tryz.func139.trans (congrArg some (by kernel_rfl))⟩
  f16 := ⟨Tryz.f140.name, by decide, Tryz.func140.trans (congrArg some (by kernel_rfl))⟩
  f17 := ⟨Tryz.f141.name, by decide, Tryz.func141.trans (congrArg some (by kernel_rfl))⟩
  f18 := ⟨Tryz.f142.name, by decide, Tryz.func142.trans (congrArg some (by kernel_rfl))⟩
  f19 := Tryz.func143.trans (congrArg some (by kernel_rfl))
  f20 := Tryz.func144.trans (congrArg some (by kernel_rfl))
  f30 := ⟨Tryz.f146.name, by decide, Tryz.func146.trans (congrArg some (by kernel_rfl))⟩
  f31 := Tryz.func147.trans (congrArg some (by kernel_rfl))
  f32 := Tryz.func148.trans (congrArg some (by kernel_rfl))
  f33 := ⟨Tryz.f149.name, by decide, Tryz.func149.trans (congrArg some (by kernel_rfl))⟩
  f34 := ⟨Tryz.f150.name, by decide, Tryz.func150.trans (congrArg some (by kernel_rfl))⟩
  f35 := ⟨Tryz.f151.name, by decide, Tryz.func151.trans (congrArg some (by kernel_rfl))⟩
  f40 := ⟨Tryz.f152.name, by decide, Tryz.func152.trans (congrArg some (by kernel_rfl))⟩
  t0 := Tryz.underlying0
  a0 := Tryz.isAgg0
  z0 := Tryz.sizeOf0
  v0 := Tryz.zeroValue0
  t3 := Tryz.underlying3
  a3 := Tryz.isAgg3
  z3 := Tryz.sizeOf3
  v3 := Tryz.zeroValue3
  t4 := Tryz.underlying4
  a4 := Tryz.isAgg4
  z4 := Tryz.sizeOf4
  v4 := Tryz.zeroValue4
  t5 := Tryz.underlying5
  a5 := Tryz.isAgg5
  z5 := Tryz.sizeOf5
  v5 := Tryz.zeroValue5
  t9 := Tryz.underlying9
  a9 := Tryz.isAgg9
  z9 := Tryz.sizeOf9
  v9 := Tryz.zeroValue9
  t22 := Tryz.underlying66
  a22 := Tryz.isAgg66
  z22 := Tryz.sizeOf66
  v22 := Tryz.zeroValue66
  t23 := Tryz.underlying66
  a23 := Tryz.isAgg66
  z23 := Tryz.sizeOf66
  v23 := Tryz.zeroValue66
  t25 := Tryz.underlying3
  a25 := Tryz.isAgg3
  z25 := Tryz.sizeOf3
  v25 := Tryz.zeroValue3
  t32 := Tryz.underlying68
  a32 := Tryz.isAgg68
  z32 := Tryz.sizeOf68
  v32 := Tryz.zeroValue68
  t35 := Tryz.underlying197
  a35 := Tryz.isAgg197
  z35 := Tryz.sizeOf197
  v35 := Tryz.zeroValue197
  t36 := Tryz.underlying198
  a36 := Tryz.isAgg198
  z36 := Tryz.sizeOf198
  v36 := Tryz.zeroValue198
  t41 := Tryz.underlying203
  a41 := Tryz.isAgg203
  z41 := Tryz.sizeOf203
  v41 := Tryz.zeroValue203
  t44 := Tryz.underlying37
  a44 := Tryz.isAgg37
  z44 := Tryz.sizeOf37
  v44 := Tryz.zeroValue37
  t46 := Tryz.underlying28
  a46 := Tryz.isAgg28
  z46 := Tryz.sizeOf28
  v46 := Tryz.zeroValue28
  t53 := Tryz.underlying207
  a53 := Tryz.isAgg207
  z53 := Tryz.sizeOf207
  v53 := Tryz.zeroValue207
  t57 := Tryz.underlying211
  a57 := Tryz.isAgg211
  z57 := Tryz.sizeOf211
  v57 := Tryz.zeroValue211
  t63 := Tryz.underlying213
  a63 := Tryz.isAgg213
  z63 := Tryz.sizeOf213
  v63 := Tryz.zeroValue213
  t64 := Tryz.underlying214
  a64 := Tryz.isAgg214
  z64 := Tryz.sizeOf214
  v64 := Tryz.zeroValue214 }
end Go.Proofs
end
