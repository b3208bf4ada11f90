/- rec.Put. -/
import Derived.Test.YtcmobcbecbajiaaRecB
import Derived.Test.YtcmobcbecbajiaaConv
import Derived.Deep.RegionHeld3
import Derived.Deep.DeepCutAuto
namespace Go.Proofs.Ytcmobcbecbajiaa
open Go.RowKit
set_option linter.unusedSimpArgs false
set_option linter.unusedVariables false

theorem put_bad (x : Item) (w : World) (hg : x.good = false) :
    Calls Try.prog 51 #[.agg #[.string x.key, .string x.val, .int .u32 x.flags.toNat, .int .i64 x.exp.toInt, .int .u64 x.ver.toNat]] w fun e w' => e = .returned (.tuple #[.slice none 0 0, .int .i64 1]) ∧ Chg No w w' := by
  have H := fun W => Lib.hid (good_calls x W)
  rw [hg] at H
  clear hg
  go_enter Try.func51, Try.ntmps51
  go_wp2_with fail
  refine (H _).out.mono ?_
  rintro e w1 ⟨rfl, hc1⟩
  have F : Hid (Chg No w w1) := (Chg.alloc (Chg.refl _ _) _).trans hc1
  clear hc1 H
  go_wp2
  go_ret2
  exact ⟨rfl, F.out⟩

theorem exp_wrap (e : Int64) : IntKind.u64.wrap e.toInt = e.toUInt64.toNat := by
  rw [IntKind.wrap_u64]
  have h := e.toInt_lt
  have h2 := e.le_toInt
  have : (e.toUInt64.toNat : Int) = e.toInt % 18446744073709551616 := by
    have h3 : e.toUInt64.toNat = e.toBitVec.toNat := rfl
    have h4 : e.toInt = e.toBitVec.toInt := rfl
    rw [h3, h4, BitVec.toInt_eq_toNat_bmod]
    have := e.toBitVec.isLt
    rw [show (18446744073709551616 : Int) = ((2 ^ 64 : Nat) : Int) from rfl, Int.bmod_emod, Int.emod_eq_of_lt (by omega) (by omega)]
  rw [this]

theorem own_eq {w : World} {base e size n n' : Nat} {v : Value} {xs xs' : List Value} (h : w.ownsRow base e size v n xs) (hn : n = n') (hx : xs = xs') : w.ownsRow base e size v n' xs' := by
  subst hn; subst hx; exact h
theorem hd24_bys (x : Item) (hk : x.key.size ≤ 250) :
    ([.int .u8 (x.key.size : Int)] ++ bys (le (Int.toNat 2) (x.val.size : Int).toNat) ++ [.int .u8 82] ++ bys (le (Int.toNat 4) (x.flags.toNat : Int).toNat) ++ bys (le (Int.toNat 8) (x.exp.toUInt64.toNat : Int).toNat) ++ bys (le (Int.toNat 8) (x.ver.toNat : Int).toNat)) = bys (hd24 x) := by
  have e : ((UInt8.ofNat x.key.size).toNat : Int) = (x.key.size : Int) := by simp; omega
  simp only [hd24, bys, List.map_cons, List.map_append, e, Int.toNat_natCast, List.append_assoc, List.cons_append, List.nil_append]
  rfl

set_option maxRecDepth 100000 in
set_option maxHeartbeats 1000000 in
theorem put_good (x : Item) (w : World) (hg : x.good = true) :
    Calls Try.prog 51 #[.agg #[.string x.key, .string x.val, .int .u32 x.flags.toNat, .int .i64 x.exp.toInt, .int .u64 x.ver.toNat]] w fun e w' => ∃ v, e = .returned (.tuple #[v, .int .i64 0]) ∧ w'.ownsRow w.heap.size tU8 1 v (record x).length (bys (record x)) ∧ Chg No w w' := by
  have H := fun W => Lib.hid (good_calls x W)
  rw [hg] at H
  obtain ⟨hk1, hk2, hv2⟩ : 1 ≤ x.key.size ∧ x.key.size ≤ 250 ∧ x.val.size ≤ 1024 := by
    simp [Item.good] at hg
    exact ⟨hg.1.1.1, hg.1.1.2, hg.1.2⟩
  clear hg
  go_enter Try.func51, Try.ntmps51
  go_wp2_with fail
  refine (H _).out.mono ?_
  rintro e w1 ⟨rfl, hc1⟩
  have hX : Blk w1 w.heap.size 38 #[.string x.key, .string x.val, .int .u32 x.flags.toNat, .int .i64 x.exp.toInt, .int .u64 x.ver.toNat] := (Blk.new w _ _).chg hc1 (fun h => h)
  have HX := Lib.hid hX
  have HC1 : Hid (Chg No w w1) := (Chg.alloc (Chg.refl _ _) _).trans hc1
  have x0 := hX.cell 0
  have x1 := hX.cell 1
  simp at x0 x1
  clear hc1 H hX
  go_wp2_with (first | (with_reducible refine wpList_s2b _ rfl 9 tBytes (.tmp 13) rfl Try.underlying9 Try.underlying31 Try.underlying5 _ rfl ?_; intro cap w2 hcap hrd hc2 hs2; have HRD := Lib.hid hrd; have HC2 := Lib.hid hc2; have HS2 := Lib.hid hs2; clear hcap hrd hc2 hs2; have X2 := Lib.hid (HX.out.chg HC2.out (fun h => h)); have x0 := X2.out.cell 0; have x1 := X2.out.cell 1; simp at x0 x1; have hlt2 : w.heap.size < w2.heap.size := X2.out.lt))
  have HL1 : Hid (w1.heap.size < w2.heap.size) := by show _ < _; rw [HS2.out]; omega
  have hk64 : (x.val.size : Int) < 18446744073709551616 := by omega
  refine (add_callsI _ w2.heap.size 1 _ _ 2 _ (own_one w2 _ _) (by simp) (by omega) hk64 (by omega) (by omega) (by omega)).mono ?_
  rintro e w3 ⟨v3, rfl, ho3, hc3⟩
  have HO3 := Lib.hid ho3
  have HC3 : Hid (Chg (fun i => w2.heap.size ≤ i) w2 w3) := ((Chg.refl _ _).alloc _).trans hc3
  clear ho3 hc3 x0 x1
  have X3 := Lib.hid (X2.out.chg HC3.out (by omega))
  have x2 := X3.out.cell 2
  simp at x2
  go_wp2_with fail
  have hw3 : w2.heap.size ≤ w3.heap.size := HC3.out.size
  have hk32 : (x.flags.toNat : Int) < 4294967296 := by have := x.flags.toNat_lt; omega
  have hfw : IntKind.u64.wrap (x.flags.toNat : Int) = x.flags.toNat := wraps_u64 _ (by omega) (by omega)
  go_region_held3 (fun w' => w'.cell? ⟨w.heap.size, 2, none⟩ = some (.int .u32 x.flags.toNat)) (first | go_keep)
    (first
      | (refine step_app _ (by rfl) (.tmp 25) (.tmp 26) tBytes (by rfl) tU8 Try.underlying31 ti_u8 rfl (by omega) w2.heap.size v3 _ _ (by rfl) (HO3.out.alloc _) tU8 _ 1 1 _ (by rfl) (rd_one _ _ _) (by simp [Value.oneCell']) (by simp only [maxLen]; omega) (by omega) (by simp; omega) ?_
         intro v4 w4 ho4 hg4 hb4
         have HO4 := Lib.hid ho4
         have HC4 : Hid (Chg (fun i => w2.heap.size ≤ i) w3 w4) := (((Chg.refl _ _).alloc _).drew).grown hg4 (fun k hk => .inl (own_new HO3.out k hk))
         clear ho4 hg4 hb4
         have X4 := Lib.hid (X3.out.chg HC4.out (by omega))
         have x24 := X4.out.cell 2
         simp at x24
         have hw4 : w2.heap.size ≤ w4.heap.size := by have := HC4.out.size; omega)
      | (go_at_call_of 83 v4
         refine (add_callsI v4 w2.heap.size _ _ _ 4 w4 HO4.out hw4 (by omega) (by omega) (by omega) (by omega) (by simp)).mono ?_
         rintro e w5 ⟨v5, rfl, ho5, hc5⟩
         have HO5 := Lib.hid ho5
         have HC5 := Lib.hid hc5
         clear ho5 hc5
         have X5 := Lib.hid (X4.out.chg HC5.out (by omega))
         have x25 := X5.out.cell 2
         simp at x25
         have hw5 : w2.heap.size ≤ w5.heap.size := by have := HC5.out.size; omega))
  clear x2 x24 x25 hfw
  have x3 := X5.out.cell 3
  have x4 := X5.out.cell 4
  simp at x3 x4
  have hk64 : (x.ver.toNat : Int) < 18446744073709551616 := by have := x.ver.toNat_lt; omega
  have hew : IntKind.u64.wrap x.exp.toInt = x.exp.toUInt64.toNat := exp_wrap x.exp
  have hel : (x.exp.toUInt64.toNat : Int) < 18446744073709551616 := by have := x.exp.toUInt64.toNat_lt; omega
  go_wp2_with fail
  go_region_held3 (fun w' => w'.cell? ⟨w.heap.size, 3, none⟩ = some (.int .i64 x.exp.toInt) ∧ w'.cell? ⟨w.heap.size, 4, none⟩ = some (.int .u64 x.ver.toNat)) (first | go_keep)
    (first
      | (go_at_call_of 83 v5
         refine (add_callsI v5 w2.heap.size _ _ _ 8 w5.drew HO5.out hw5 (by omega) (by omega) (by omega) (by omega) (by simp)).mono ?_
         rintro e w6 ⟨v6, rfl, ho6, hc6⟩
         have HO6 := Lib.hid ho6
         have HC6 := Lib.hid hc6
         clear ho6 hc6
         have X6 := Lib.hid (X5.out.drew.chg HC6.out (by omega))
         have x63 := X6.out.cell 3
         have x64 := X6.out.cell 4
         simp at x63 x64
         have hw6 : w2.heap.size ≤ w6.heap.size := by have := HC6.out.size; simp at this; omega)
      | (go_at_call_of 83 v6
         refine (add_callsI v6 w2.heap.size _ _ _ 8 w6 HO6.out hw6 (by omega) (by omega) (by omega) (by omega) (by simp)).mono ?_
         rintro e w7 ⟨v7, rfl, ho7, hc7⟩
         obtain ⟨A7, c7, rfl, _, _⟩ := own_slice ho7
         have HO7 := Lib.hid ho7
         have HC7 := Lib.hid hc7
         clear ho7 hc7
         have X7 := Lib.hid (X6.out.chg HC7.out (by omega))
         have x73 := X7.out.cell 3
         have x74 := X7.out.cell 4
         simp at x73 x74
         have hw7 : w2.heap.size ≤ w7.heap.size := by have := HC7.out.size; omega))
  clear x3 x4 x63 x64 x73 x74 hew
  have HO8 : Hid (w7.ownsRow w2.heap.size tU8 1 (.slice A7 24 c7) 24 (bys (hd24 x))) := own_eq HO7.out rfl (hd24_bys x hk2)
  have HR8 : Hid (Rd w7 tU8 A7 24 (bys (hd24 x))) := Rd.ofOwn HO8.out
  have HC7' : Hid (Chg (fun i => w2.heap.size ≤ i) w2 w7) := (HC3.out.trans (HC4.out.trans HC5.out)).trans ((Chg.refl _ _).drew.trans (HC6.out.trans HC7.out))
  have HRB : Hid (Rd w7 tU8 (some ⟨w1.heap.size, 0, none⟩) (x.key.size + x.val.size) (bys (body x))) := by
    have h := HRD.out.lo HC7'.out HL1.out
    have e : (x.key ++ x.val).data.toList = body x := by simp [body]
    rw [e] at h
    show Rd _ _ _ _ _
    simpa using h
  have hw7 : w2.heap.size ≤ w7.heap.size := HC7'.out.size
  have H1 := Lib.hid (crc_calls A7 24 c7 (hd24 x) w7 HR8.out (by omega))
  have H2 := Lib.hid (crc_calls (some ⟨w1.heap.size, 0, none⟩) (x.key.size + x.val.size) cap (body x) w7 HRB.out (by omega))
  clear HO7 HC3 HC4 HC5 HC6 HC7 HO3 HO4 HO5 HO6 X2 X3 X4 X5 X6 X7 HRD HX HS2
  have hc1 : (crc (hd24 x) : Int) < 4294967296 := by have := crc_lt (hd24 x); omega
  have hc2 : (crc (body x) : Int) < 4294967296 := by have := crc_lt (body x); omega
  go_wp2_with fail
  refine H1.out.mono ?_
  rintro e w8 ⟨rfl, rfl⟩
  go_wp2_with fail
  refine (add_callsI _ w2.heap.size 24 _ _ 4 w7 HO8.out hw7 (by omega) (by omega) (by omega) (by omega) (by omega)).mono ?_
  rintro e w9 ⟨v9, rfl, ho9, hc9⟩
  obtain ⟨A9, c9, rfl, _, _⟩ := own_slice ho9
  have HO9 := Lib.hid ho9
  have HC9 : Hid (Chg (fun i => w2.heap.size ≤ i) w2 w9) := HC7'.out.trans hc9
  have HRB9 := Lib.hid (HRB.out.lo hc9 HL1.out)
  have H2 := Lib.hid (crc_calls (some ⟨w1.heap.size, 0, none⟩) (x.key.size + x.val.size) cap (body x) w9 HRB9.out (by omega))
  have hw9 : w2.heap.size ≤ w9.heap.size := HC9.out.size
  clear ho9 hc9
  go_wp2_with fail
  refine H2.out.mono ?_
  rintro e w10 ⟨rfl, rfl⟩
  go_wp2_with fail
  refine (add_callsI _ w2.heap.size _ _ _ 4 w9 HO9.out hw9 (by omega) (by omega) (by omega) (by omega) (by omega)).mono ?_
  rintro e w11 ⟨v11, rfl, ho11, hc11⟩
  have HO11 := Lib.hid ho11
  have HC11 : Hid (Chg (fun i => w2.heap.size ≤ i) w2 w11) := HC9.out.trans hc11
  have HRB11 := Lib.hid (HRB9.out.lo hc11 HL1.out)
  have hw11 : w2.heap.size ≤ w11.heap.size := HC11.out.size
  clear ho11 hc11
  go_wp2_with (first
    | (at_builtin; refine wpList_app _ rfl (.tmp 50) (.tmp 51) tBytes rfl tU8 Try.underlying31 ti_u8 rfl (by omega) w2.heap.size _ _ _ rfl HO11.out tU8 _ (x.key.size + x.val.size) cap _ rfl (by rw [Nat.mul_one]; exact HRB11.out) bys_one ?h63 ?hby hw11 ?_; (case h63 => simp only [maxLen]; simp; omega); (case hby => simp; omega); intro v12 w12 ho12 hg12 hb12; have HO12 := Lib.hid ho12; have HG12 := Lib.hid hg12; clear ho12 hg12 hb12))
  go_ret2
  have hc12 : Chg (fun i => w2.heap.size ≤ i) w2 w12 := HC11.out.grown HG12.out (fun k hk => .inl (own_new HO11.out k hk))
  refine ⟨v12, rfl, own_eq (own_base HO12.out (by omega)) ?_ ?_, (HC1.out.trans HC2.out).then hc12 (by intro i hi h; omega)⟩
  · rw [record_length, Item.size]
    simp
    omega
  · simp only [record, bys_append, Int.toNat_natCast, List.append_assoc]
    rfl
end Go.Proofs.Ytcmobcbecbajiaa
