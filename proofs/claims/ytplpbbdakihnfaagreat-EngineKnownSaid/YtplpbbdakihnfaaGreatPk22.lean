/- Packed texts: EngK, Chk, Rng, EngL. -/
import Derived.Test.YtplpbbdakihnfaaGreatPk21
import Derived.Test.YtplpbbdakihnfaaGreatPk12
import Derived.Test.YtplpbbdakihnfaaGreatPk02
import Derived.RangeFuncWrites
import Derived.RangeFuncNested
import Derived.RangeFuncBound
import Derived.RangeFuncCalls
import Derived.RangeFuncLeaves
import Derived.Shelf.Abstract
import Derived.Shelf.RegionOpen
import Derived.OwnWalkIn
import Derived.TacticsInMore
import Derived.LoopNIn
import Derived.LoopIn

/- The engine's Items, walked. -/
section
namespace Go.Proofs.YtplpbbdakihnfaaGreat
open Go.RowKit
attribute [local go_sem ↓] Go.wp_at_zero Go.wp_at_succ
set_option linter.unusedSimpArgs false
set_option linter.unusedVariables false

namespace Eng
/-- all that the buckets and the log tell -/
def all (X : Eng) (D : Dev) : List Item := X.B.allL D X.B.fs.length ++ X.G.items
/-- whether an item is what Get tells of its key -/
def tells (X : Eng) (D : Dev) (x : Item) : Bool := decide (X.one D x.key = some x) && X.counts x
def items (X : Eng) (D : Dev) : List Item := (X.all D).filter (X.tells D)
theorem items_take {X : Eng} {D : Dev} {l : List Item} {k : Nat} {x : Item} (hx : l[k]? = some x) : (l.take (k + 1)).filter (X.tells D) = (l.take k).filter (X.tells D) ++ (if X.tells D x = true then [x] else []) := by
  rw [List.take_add_one, hx, Option.toList, List.filter_append]
  cases h : X.tells D x <;> simp [h]
end Eng

section
variable {N : Nat} {w w' : World} {h : DevH} {t : EngH} {X : Eng} {D : Dev}
set_option maxRecDepth 100000 in
set_option maxHeartbeats 4000000 in
theorem eitems_calls (hd : DevAt w h D) (he : EngAt w h t X) (hoff : D.off = false) (hls : X.losses = D.losses)
    (hle : ∀ i : Nat, i < X.B.fs.length → X.B.lE D i = 0) (h20 : X.G.regs.length < 20) (hbn : ∀ i ∈ byNum X.G.regs, i < X.G.regs.length) (hbl : (byNum X.G.regs).length ≤ 20)
    (hlen : (X.all D).length ≤ 1000000)
    (hks : ∀ x ∈ X.all D, x.key.size ≤ 140737488351232 ∧ (X.B.get D x.key).2 ≠ 4 ∧ (X.B.get D x.key).1.key.size ≤ 140737488351232 ∧ (X.G.get x.key).key.size ≤ 140737488351232) :
    Calls Tryz.prog 25 #[.pointer (some ⟨t.E, 0, none⟩)] w fun e w' => ∃ v, e = .returned v ∧ w'.ownsRow w.heap.size tItem 5 v (X.items D).length (its (X.items D)) ∧ DevAt w' h D ∧ Chg h.foot w w' := by
  have HDN := fun W => Lib.hid (fun (hd2 : DevN w.heap.size W h D) (hc : Chg h.foot w W) => edone_calls hd2 (he.foot hd hc) hoff)
  rw [show decide (X.losses ≠ D.losses) = false from decide_eq_false (by simp [hls])] at HDN
  have HE := Lib.hid he
  have HD : Hid (DevN w.heap.size w h D) := hd
  have HFL : Hid (∀ k, h.foot k → k < w.heap.size) := fun k hk => hd.foot_lt hk
  have HSI := Lib.hid (sitems_calls (show DevN w.heap.size w h D from hd) he.sto hle)
  have HGI := fun W => Lib.hid (fun (hc : Chg h.foot w W) => items_calls (he.foot hd hc).lg h20 hbn hbl)
  have HGT := fun W (y : ByteArray) => Lib.hid (fun (hd2 : DevN w.heap.size W h D) (hc : Chg h.foot w W) (h1 : y.size ≤ 140737488351232) (h2 : (X.B.get D y).2 ≠ 4) (h3 : (X.B.get D y).1.key.size ≤ 140737488351232) (h4 : (X.G.get y).key.size ≤ 140737488351232) => eget_calls hd2 (he.foot hd hc) hoff hls y h1 h2 h3 h4)
  have HCN := fun W y => Lib.hid (fun (hc : Chg h.foot w W) (hy : y.key.size ≤ 140737488351232) => ecounts_calls (he.foot hd hc) y hy)
  have HC12 := fun W => Lib.hid (fun (hc : Chg h.foot w W) => (he.foot hd hc).box.cell 12)
  have HR : Hid (X.items D = (X.all D).filter (X.tells D)) := rfl
  have HT : Hid (∀ y, X.tells D y = (decide (X.one D y.key = some y) && X.counts y)) := fun y => rfl
  have HGE : Hid (∀ k, X.get D k = (X.one D k).getD Item.zero ∧ X.getE D k = match X.one D k with | some _ => 0 | none => 5) := fun k => ⟨rfl, rfl⟩
  have HKS := Lib.hid hks
  obtain ⟨la, hla⟩ : ∃ l, l = X.B.allL D X.B.fs.length := ⟨_, rfl⟩
  obtain ⟨lb, hlb⟩ : ∃ l, l = X.G.items := ⟨_, rfl⟩
  have HAL : Hid (X.all D = la ++ lb) := by show _ = _; rw [hla, hlb]; rfl
  rw [← hla] at HSI
  rw [← hlb] at HGI
  rw [HAL.out] at HR HKS hlen
  have xlt := he.box.lt
  have c11 := he.box.cell 11
  simp [engBox] at c11
  clear hd he hoff hls hle h20 hbn hbl hks hla hlb HAL
  rw [List.length_append] at hlen
  go_enter Tryz.func25, Tryz.ntmps25
  go_wp2_with fail
  refine HSI.out.mono ?_
  rintro e w1 ⟨va, rfl, hoa, hd1, hc1⟩
  have HOA := Lib.hid hoa
  have HD1 := Lib.hid hd1
  have HC1 := Lib.hid hc1
  clear hoa hd1 hc1 HSI c11
  go_wp2_with fail
  refine ((HDN _).out HD1.out HC1.out).mono ?_
  rintro e w2 ⟨rfl, n2, rfl⟩
  have c12 := (HC12 (w1.drewN n2)).out (HC1.out.drewN n2)
  simp [engBox] at c12
  go_wp2_with fail
  refine ((HGI _).out (HC1.out.drewN n2)).mono ?_
  rintro e w3 ⟨vb, rfl, hob, hc3⟩
  obtain ⟨Ab, cb, rfl, hncb, hrb⟩ := own_slice hob
  obtain ⟨Aa, ca, rfl, hnca, hra⟩ := own_slice HOA.out
  have HC13 : Hid (Chg No w1 w3) := ((Chg.refl No w1).drewN n2).trans hc3
  have HOA3 := Lib.hid (own_chg HOA.out HC13.out (fun _ _ h => h))
  have HRB := Lib.hid hrb
  have HSZ3 : Hid (w.heap.size ≤ w3.heap.size) := Nat.le_trans HC1.out.size HC13.out.size
  have h63 : la.length + lb.length ≤ maxLen := by simp only [maxLen]; omega
  have hby : (la.length + lb.length) * 56 ≤ 140737488355328 := by omega
  clear hob hc3 hrb hra hncb hnca c12 HOA
  go_wp2_with (first
    | (at_builtin; refine wpList_app _ rfl (.tmp 24) (.tmp 29) 46 rfl tItem Tryz.underlying46 ti_item rfl (by omega) w.heap.size _ _ _ rfl HOA3.out tItem _ _ _ _ rfl HRB.out its_one_cell (by simp only [maxLen]; omega) (by omega) HSZ3.out ?_; intro v4 w4 ho4 hg4 hb4; obtain ⟨A4, c4, rfl, hnc4, hr4⟩ := own_slice ho4; have HR4 := Lib.hid hr4; have HG4 := Lib.hid hg4; clear ho4 hg4 hb4 hr4))
  have HCH : Hid (Chg (fun j => w.heap.size ≤ j) w1 w4) := (HC13.out.mono (fun _ _ h => h.elim)).grown HG4.out (fun k' hk' => .inl (own_new HOA3.out k' hk'))
  have HDC := Lib.hid (devN_new HD.out HD1.out HC1.out HCH.out)
  obtain ⟨L, hL⟩ : ∃ L, L = la.length + lb.length := ⟨_, rfl⟩
  obtain ⟨al, hal⟩ : ∃ al, al = la ++ lb := ⟨_, rfl⟩
  have HLN := Lib.hid hL
  have HLL : Hid (al.length = L) := by show _ = _; rw [hal, hL, List.length_append]
  have hr4 : Rd w4 tItem A4 (L * 5) (its al) := by rw [hal, its_append, hL]; exact HR4.out
  have HRD := Lib.hid hr4
  rw [← hal] at HR HKS
  rw [← hL] at hlen hnc4 ⊢
  have HSZ : Hid (w.heap.size ≤ w4.heap.size) := HDC.out.2.size
  clear HR4 HG4 HCH HOA3 HC13 HC1 HD1 HRB HGI HC12 hal hL hr4 HSZ3 h63 hby
  try go_frame
  rw [show ((la.length : Int) + (lb.length : Int)) = (L : Int) from by have := HLN.out; omega]
  go_loopg [5, 32] L (fun g v5 v32 wr => ∃ (k : Nat), v32 = .int .i64 k ∧ k ≤ L ∧ L - k = g ∧ Hid (DevN w.heap.size wr h D ∧ Chg h.foot w4 wr ∧ wr.ownsRow w4.heap.size tItem 5 v5 ((al.take k).filter (X.tells D)).length (its ((al.take k).filter (X.tells D)))))
  case atStart => exact ⟨0, rfl, by omega, by omega, HDC.out.1, Chg.refl _ _, World.ownsRow_nil _ _ _ _⟩
  case round =>
    obtain ⟨k, rfl, hk, hg, H⟩ := hrel
    by_cases hkl : k < L
    · obtain ⟨x, hx⟩ : ∃ x, al[k]? = some x := ⟨_, List.getElem?_eq_getElem (by rw [HLL.out]; exact hkl)⟩
      have HS := Lib.hid (Eng.items_take (X := X) (D := D) hx)
      obtain ⟨h1, h2, h3, h4⟩ := HKS.out x (List.mem_of_getElem? hx)
      obtain ⟨gy, oy, eA, hcy⟩ := rd_at6 (HRD.out.chg H.out.2.1 (fun g cur fz hgg => HDC.out.1.not_foot hgg (by decide) (by decide))) hkl hx
      subst eA
      have ⟨y0, y1, y2, y3, y4⟩ := hcy wr (Chg.refl _ _)
      have HK0 := Lib.hid h1
      have HO := Lib.hid H.out.2.2
      have HCR : Hid (Chg h.foot w wr) := HDC.out.2.trans H.out.2.1
      have HGG := Lib.hid ((HGT (wr.alloc (.cells #[.string x.key, .string x.val, .int .u32 x.flags.toNat, .int .i64 x.exp.toInt, .int .u64 x.ver.toNat] tItem)) x.key).out (H.out.1.chgNo ((Chg.refl No wr).alloc _)) (HCR.out.alloc _) h1 h2 h3 h4)
      have HTE := Lib.hid (HT.out x)
      obtain ⟨hge1, hge2⟩ := HGE.out x.key
      rw [hge1, hge2] at HGG
      have HZ := Lib.hid (Blk.new wr tItem #[.string ⟨#[]⟩, .string ⟨#[]⟩, .int .u32 0, .int .i64 0, .int .u64 0])
      have z0 := HZ.out.cell 0
      have z1 := HZ.out.cell 1
      have z2 := HZ.out.cell 2
      have z3 := HZ.out.cell 3
      have z4 := HZ.out.cell 4
      have g0 := HZ.out.frozen 0
      have g1 := HZ.out.frozen 1
      have g2 := HZ.out.frozen 2
      have g3 := HZ.out.frozen 3
      have g4 := HZ.out.frozen 4
      simp only [List.getElem?_toArray, List.getElem?_cons_zero, List.getElem?_cons_succ] at z0 z1 z2 z3 z4
      clear hcy h2 h3 h4 hge1 hge2 h1 hx
      go_wp2_with fail
      refine HGG.out.mono ?_
      rintro e w6 ⟨rfl, hd6, hc6⟩
      have hct : Chg h.foot wr w6 := (((Chg.refl No wr).alloc _).mono (fun _ _ h => h.elim)).trans hc6
      have HC6 : Hid (Chg h.foot w w6) := HCR.out.trans hct
      have HC46 : Hid (Chg h.foot w4 w6) := H.out.2.1.trans hct
      have HD6 := Lib.hid hd6
      have HX6 : Hid (Blk w6 wr.heap.size tItem (itc x).toArray) := (Blk.new wr tItem (itc x).toArray).chg hc6 (fun hk => by have := HFL.out _ hk; have := HCR.out.size; omega)
      have HO6 := Lib.hid (own_chg HO.out hct (fun j hj hf => by have := own_new HO.out j hj; have := HFL.out j hf; have := HSZ.out; omega))
      have hlt6 : wr.heap.size < w6.heap.size := HX6.out.lt
      have HZ6 := Lib.hid (Blk.new w6 tItem #[.string ⟨#[]⟩, .string ⟨#[]⟩, .int .u32 0, .int .i64 0, .int .u64 0])
      clear HGG hd6 hc6 hct H z0 z1 z2 z3 z4 g0 g1 g2 g3 g4 HZ y0 y1 y2 y3 y4
      have z0 := HZ6.out.cell 0
      have z1 := HZ6.out.cell 1
      have z2 := HZ6.out.cell 2
      have z3 := HZ6.out.cell 3
      have z4 := HZ6.out.cell 4
      have g0 := HZ6.out.frozen 0
      have g1 := HZ6.out.frozen 1
      have g2 := HZ6.out.frozen 2
      have g3 := HZ6.out.frozen 3
      have g4 := HZ6.out.frozen 4
      simp only [List.getElem?_toArray, List.getElem?_cons_zero, List.getElem?_cons_succ] at z0 z1 z2 z3 z4
      have x0 := HX6.out.cell 0
      have x1 := HX6.out.cell 1
      have x2 := HX6.out.cell 2
      have x3 := HX6.out.cell 3
      have x4 := HX6.out.cell 4
      simp only [itc, List.getElem?_toArray, List.getElem?_cons_zero, List.getElem?_cons_succ] at x0 x1 x2 x3 x4
      have xn : ¬ wr.heap.size = w6.heap.size := by omega
      have xn2 : ¬ w6.heap.size = wr.heap.size := by omega
      have HTF2 := HTE
      obtain ⟨o, ho⟩ : ∃ o, o = X.one D x.key := ⟨_, rfl⟩
      rw [← ho] at HTE ⊢
      clear ho HTF2
      cases o with
      | none =>
        have HTF : Hid (X.tells D x = false) := by show _ = _; rw [HTE.out]; rfl
        simp only [Option.getD_none]
        unfold itemV
        clear HTE
        go_wp2_with fail
        go_roundg (L - (k + 1))
        case measure => omega
        case rel => exact ⟨k + 1, by go_num, by omega, rfl, HD6.out.chgNo (by (repeat (first | (with_reducible exact Chg.refl _ _) | (with_reducible assumption) | (with_reducible refine Chg.drewN ?_ _) | (with_reducible refine Chg.drew ?_) | (with_reducible refine Chg.alloc ?_ _) | (with_reducible refine Chg.setCell ?_ (by first | (left; simp [DevH.foot]; done) | (right; simp; done) | (right; simp; omega)) _)))), HC46.out.alloc _, by rw [HS.out, if_neg (by rw [HTF.out]; decide), List.append_nil]; exact HO6.out.alloc _⟩
      | some y =>
        simp only [Option.getD_some]
        unfold itemV
        by_cases hyx : y = x
        · have heq : ∀ W : World, (binOp .eql tItem (itemV y) (itemV x)).run Tryz.prog W = .ok (.bool true) W := fun W => by rw [run_eql_item, decide_eq_true hyx]
          have HTX : Hid (X.tells D x = X.counts x) := by show _ = _; rw [HTE.out, hyx]; simp
          clear hyx HTE
          unfold itemV at heq
          go_wp2_with fail
          have HGC := Lib.hid ((HCN (w6.alloc (.cells #[.string y.key, .string y.val, .int .u32 y.flags.toNat, .int .i64 y.exp.toInt, .int .u64 y.ver.toNat] tItem)) x).out (HC6.out.alloc _) HK0.out)
          unfold itemV at HGC
          refine HGC.out.mono ?_
          rintro e w7 ⟨rfl, hc7⟩
          have hc67 : Chg No w6 w7 := ((Chg.refl No w6).alloc _).trans hc7
          have HD7 : Hid (DevN w.heap.size w7 h D) := HD6.out.chgNo hc67
          have HC47 : Hid (Chg h.foot w4 w7) := HC46.out.trans (hc67.mono (fun _ _ h => h.elim))
          have HO7 := Lib.hid (own_chg HO6.out hc67 (fun _ _ h => h))
          have HX7 := Lib.hid (HX6.out.chg hc67 (fun h => h))
          have HSZ7 : Hid (w4.heap.size ≤ w7.heap.size) := HC47.out.size
          clear HGC hc67 hc7 z0 z1 z2 z3 z4 g0 g1 g2 g3 g4 x0 x1 x2 x3 x4 HX6 HO6 HD6 HC46 HZ6 xn xn2
          obtain ⟨b, hb⟩ : ∃ b, b = X.counts x := ⟨_, rfl⟩
          rw [← hb] at HTX ⊢
          clear hb
          cases b with
          | false =>
            go_wp2_with fail
            go_roundg (L - (k + 1))
            case measure => omega
            case rel => exact ⟨k + 1, by go_num, by omega, rfl, HD7.out, HC47.out, by rw [HS.out, if_neg (by rw [HTX.out]; decide), List.append_nil]; exact HO7.out⟩
          | true =>
            have x0 := HX7.out.cell 0
            have x1 := HX7.out.cell 1
            have x2 := HX7.out.cell 2
            have x3 := HX7.out.cell 3
            have x4 := HX7.out.cell 4
            simp only [itc, List.getElem?_toArray, List.getElem?_cons_zero, List.getElem?_cons_succ] at x0 x1 x2 x3 x4
            have hlf : ((al.take k).filter (X.tells D)).length ≤ k := by
              refine Nat.le_trans (List.length_filter_le _ _) ?_
              rw [List.length_take]; omega
            have h63 : ((al.take k).filter (X.tells D)).length + 1 ≤ maxLen := by simp only [maxLen]; omega
            have hby : (((al.take k).filter (X.tells D)).length + 1) * 56 ≤ 140737488355328 := by omega
            go_wp2_with (first
              | (at_builtin; go_loud (refine wpList_app _ rfl (.tmp 55) (.tmp 57) 46 rfl tItem Tryz.underlying46 ti_item rfl (by omega) w4.heap.size _ _ _ rfl (HO7.out.alloc _) tItem _ 1 1 (itc x) rfl (rd_item _ x) (itc_one_cell x) h63 (by omega) (by have := HSZ7.out; simp; omega) ?_); intro v2 w8 ho2 hg2 hb2; have HO8 := Lib.hid ho2; have HG8 := Lib.hid hg2; clear ho2 hg2 hb2))
            have hch : Chg (fun j => w4.heap.size ≤ j) w7 w8 := ((Chg.refl _ w7).alloc _).grown HG8.out (fun k' hk' => .inl (own_new HO7.out k' hk'))
            have HD8 := Lib.hid (devN_new HD.out HD7.out (HDC.out.2.trans HC47.out) (hch.mono (fun j _ hj => Nat.le_trans HSZ.out hj)))
            have HC8 : Hid (Chg h.foot w4 w8) := (HC47.out.alloc _).grown HG8.out (fun k' hk' => .inr (own_new HO7.out k' hk'))
            clear hch
            go_roundg (L - (k + 1))
            case measure => omega
            case rel =>
              refine ⟨k + 1, by go_num, by omega, rfl, HD8.out.1, HC8.out, ?_⟩
              rw [HS.out, if_pos (by rw [HTX.out]), List.length_append, its_append, its_one]
              exact HO8.out
        · have heq : ∀ W : World, (binOp .eql tItem (itemV y) (itemV x)).run Tryz.prog W = .ok (.bool false) W := fun W => by rw [run_eql_item, decide_eq_false hyx]
          have HTF : Hid (X.tells D x = false) := by show _ = _; rw [HTE.out, decide_eq_false (by simpa using hyx)]; rfl
          clear hyx HTE
          unfold itemV at heq
          go_wp2_with fail
          go_roundg (L - (k + 1))
          case measure => omega
          case rel => exact ⟨k + 1, by go_num, by omega, rfl, HD6.out.chgNo (by (repeat (first | (with_reducible exact Chg.refl _ _) | (with_reducible assumption) | (with_reducible refine Chg.drewN ?_ _) | (with_reducible refine Chg.drew ?_) | (with_reducible refine Chg.alloc ?_ _) | (with_reducible refine Chg.setCell ?_ (by first | (left; simp [DevH.foot]; done) | (right; simp; done) | (right; simp; omega)) _)))), HC46.out.alloc _, by rw [HS.out, if_neg (by rw [HTF.out]; decide), List.append_nil]; exact HO6.out.alloc _⟩
    · obtain rfl : k = L := by omega
      have HTK : Hid (al.take k = al) := List.take_of_length_le (by rw [HLL.out]; exact Nat.le_refl _)
      have HOF := Lib.hid H.out.2.2
      rw [HTK.out] at HOF
      have HDF : Hid (DevN w.heap.size wr h D ∧ Chg h.foot w wr) := ⟨H.out.1, HDC.out.2.trans H.out.2.1⟩
      clear H
      go_wp2_with fail
      go_ret
      refine ⟨_, rfl, ?_, HDF.out.1.at_, HDF.out.2⟩
      rw [HR.out]
      exact own_base HOF.out HSZ.out
end
end Go.Proofs.YtplpbbdakihnfaaGreat
end

/- slices.Chunk over marks: its iterator's contract, for every body that keeps its two boxes. -/
section
namespace Go.Proofs.YtplpbbdakihnfaaGreat
open Go.RowKit
attribute [local go_sem] Oper.semAt_some
attribute [local go_sem ↓] Go.wp_at_zero Go.wp_at_succ
set_option linter.unusedSimpArgs false
set_option linter.unusedVariables false

/-- x[lo:hi:hi], not empty -/
theorem sub_slice3m {P : Program} {T e : TypeId} {z : Value} {size bytes : Nat} (hT : P.underlying T = some (.slice e)) (hi : TI P e z size bytes) (A : Option Addr) (n c l h : Nat) (h1 : l < h) (h2 : h ≤ n) (h3 : n ≤ c) (W : World) :
    (Instr.slice T (.slice A n c) (some (.int .i64 l)) (some (.int .i64 h)) (some (.int .i64 h))).run P W = .ok (.slice (A.map (·.add (l * size))) (h - l) (h - l)) W := by
  obtain ⟨i, hi', hz, hs, hby⟩ := info_parts hi
  have hsz : (sizeOf e).run P W = .ok size W := by simp [sizeOf, typeInfo, hi', hs]
  simp only [Instr.slice, Sem.run_bind, run_underlying hT, Result.andThen, Instr.sliceBounds, Sem.run_pure]
  rw [run_sliceBound _ _ _ _ _ (by omega) (by omega)]
  simp only []
  rw [run_sliceBound _ _ _ _ _ (by omega) (by omega)]
  simp only []
  rw [run_sliceBound _ _ _ _ _ (by omega) (by omega)]
  simp only [hsz]
  simp
  omega

/-- how many chunks -/
def mkN (len : Nat) : Nat := (len + 22) / 23
/-- a chunk's number; its value -/
abbrev MkIx (len : Nat) := { j : Nat // j * 23 < len }
def mkV (A : Option Addr) (len j : Nat) : Value := .slice (A.map (·.add (j * 23 * 2))) (min 23 (len - j * 23)) (min 23 (len - j * 23))
def mkKp (Bs Bn : Nat) (W W' : World) : Prop := W'.heap[Bs]? = W.heap[Bs]? ∧ W'.heap[Bn]? = W.heap[Bn]?

set_option maxRecDepth 100000 in
set_option maxHeartbeats 2000000 in
theorem mchunk1_in (n : Nat) (l Bs Bn B0 : Nat) (A : Option Addr) (len cap : Nat) (hlc : len ≤ cap) (hlen : len ≤ 140737488351232) (J Jx : List (MkIx len) → World → Prop)
    (hJ : AbidesFrom B0 J)
    (hY : ∀ pre x W, J pre W → pre.length < mkN len → YieldAt Fence.wide (n - 1) Tryz.prog l #[mkV A len x.1] W fun e W' =>
      (e = .returned (.bool true) ∧ J (pre ++ [x]) W' ∧ mkKp Bs Bn W W') ∨ (e = .returned (.bool false) ∧ Jx (pre ++ [x]) W'))
    (W : World) (hBs : W.cell? ⟨Bs, 0, none⟩ = some (.slice A len cap)) (hBn : W.cell? ⟨Bn, 0, none⟩ = some (.int .i64 23)) (h0 : J [] W) :
    CallsIn Fence.wide n Tryz.prog 80 #[.func (.yield l) #[] #[], .pointer (some ⟨Bs, 0, none⟩), .pointer (some ⟨Bn, 0, none⟩)] W fun e W' => (∃ v, e = .returned v) ∧
      ((∃ xs : List (MkIx len), xs.map (·.1) = List.range (mkN len) ∧ J xs W') ∨ (∃ pre : List (MkIx len), (∃ k, k ≤ mkN len ∧ pre.map (·.1) = List.range k) ∧ Jx pre W')) := by
  refine callsIn_of_wp Tryz.func80 rfl trivial ?_ rfl
  simp only [Tryz.ntmps80, List.size_toArray, List.length_cons, List.length_nil, Nat.reduceAdd, Nat.reduceSub, Array.replicate_succ, Array.replicate_zero, List.push_toArray, List.append_toArray, List.nil_append, List.cons_append]
  gi_wp2
  gi_loopw [4] (fun i wr => ∃ (k : Nat) (pre : List (MkIx len)), i = .int .i64 ((k * 23 : Nat) : Int) ∧ k ≤ mkN len ∧ Hid (pre.map (·.1) = List.range k ∧ J pre wr ∧ mkKp Bs Bn W wr))
    (fun i _ => len + 23 - (intOf i).toNat)
  case atStart => exact ⟨0, [], rfl, Nat.zero_le _, ⟨rfl, h0, rfl, rfl⟩⟩
  case round =>
    obtain ⟨k, pre, rfl, hk, H⟩ := hrel
    have hc1 : wr.cell? ⟨Bs, 0, none⟩ = some (.slice A len cap) := (World.cell?_of_block H.out.2.2.1).trans hBs
    have hc2 : wr.cell? ⟨Bn, 0, none⟩ = some (.int .i64 23) := (World.cell?_of_block H.out.2.2.2).trans hBn
    obtain ⟨i, hi⟩ : ∃ i, i = k * 23 := ⟨_, rfl⟩
    rw [← hi]
    by_cases hlt : i < len
    · obtain ⟨m, hm⟩ : ∃ m, m = min 23 (len - i) := ⟨_, rfl⟩
      obtain ⟨A', hs1, _⟩ := sub_slice_l (P := Tryz.prog) Tryz.underlying100 ti_mark A len cap (i : Int) (by omega) (by omega) hlc
      simp only [Int.toNat_natCast] at hs1
      have hs3 := sub_slice3m (P := Tryz.prog) Tryz.underlying100 ti_mark A len cap i (i + m) (by omega) (by omega) hlc
      rw [show i + m - i = m from by omega] at hs3
      have hpl : pre.length = k := by have := congrArg List.length H.out.1; simpa using this
      obtain ⟨x, hx⟩ : ∃ x : MkIx len, x.1 = k := ⟨⟨k, by omega⟩, rfl⟩
      have hyv : mkV A len x.1 = .slice (A.map (·.add (i * 2))) m m := by unfold mkV; rw [hx, ← hi, ← hm]
      have HYX := fun N : Nat => Lib.hid (hY pre x (wr.drewN N) (hJ _ _ _ none H.out.2.1 ⟨rfl, rfl, rfl, Nat.le_refl _, fun _ _ _ => rfl⟩ (fun r e => by cases e)) (by rw [hpl]; unfold mkN; omega))
      rw [hyv] at HYX
      have HX := Lib.hid hx
      have HW := Lib.hid H.out.2.2
      have HP := Lib.hid H.out.1
      have hwb : IntKind.i64.wrap ((i : Int) + (m : Int)) = (i : Int) + (m : Int) := IntWalk.i64_in _ (by omega)
      have hmi : (23 : Int) ≤ ((len - i : Nat) : Int) ∨ ((len - i : Nat) : Int) < 23 := by omega
      have z1 : (0 : Int) ≤ (i : Int) := by omega
      have z2 : (i : Int) ≤ (len : Int) := by omega
      simp only [Int.natCast_add] at hs3
      have HI := Lib.hid hi
      have HM := Lib.hid hm
      have hm1 : m ≤ 23 := by omega
      have hm2 : i + m ≤ len := by omega
      have hm3 : 0 < m := by omega
      have hlt2 : (i : Int) < (len : Int) := by omega
      obtain ⟨q, hq⟩ : ∃ q, q = len - i := ⟨_, rfl⟩
      rw [← hq] at hs1
      have hmq : m = min 23 q := by omega
      clear H hi hm hmi hyv hx hq
      gi_wp2
      refine wpIn_wide.2 ?_
      by_cases hb : 23 ≤ q
      · obtain rfl : m = 23 := by omega
        have hb1 : decide ((23 : Int) ≤ (q : Int)) = true := by simp; omega
        have hb2 : (23 : Int) ≤ (q : Int) := by omega
        clear hmq
        go_quiet (fail)
        rename_i nq
        obtain ⟨fn, tmps, assign, body, hy, hR⟩ := (HYX nq).out
        gi_wp2
        refine ⟨fun h => (by cases h), hR.mono ?_⟩
        rintro e W3 (⟨rfl, hJ3, hk3⟩ | ⟨rfl, hJx3⟩)
        · have HJ3 := Lib.hid hJ3
          have HK3 : Hid (mkKp Bs Bn W W3) := ⟨hk3.1.trans HW.out.1, hk3.2.trans HW.out.2⟩
          have hc3 : W3.cell? ⟨Bn, 0, none⟩ = some (.int .i64 23) := (World.cell?_of_block HK3.out.2).trans hBn
          clear hJ3 hk3
          gi_wp2
          go_roundw
          case rel => exact ⟨k + 1, pre ++ [x], by rw [HI.out]; go_num, by unfold mkN; have := HI.out; omega, ⟨by rw [List.map_append, HP.out, List.range_succ, ← HX.out]; rfl, HJ3.out, HK3.out⟩⟩
          case measure => simp [intOf]; omega
        · have HJ3 := Lib.hid hJx3
          clear hJx3
          gi_wp2
          refine bodyPost_ret (results_none rfl _ _ _) rfl ?_
          exact ⟨⟨_, rfl⟩, .inr ⟨pre ++ [x], ⟨k + 1, by unfold mkN; have := HI.out; omega, by rw [List.map_append, HP.out, List.range_succ, ← HX.out]; rfl⟩, HJ3.out⟩⟩
      · obtain rfl : m = q := by omega
        have hb1 : decide ((23 : Int) ≤ (m : Int)) = false := by simp; omega
        have hb2 : (m : Int) < (23 : Int) := by omega
        clear hmq
        go_quiet (fail)
        rename_i nq
        obtain ⟨fn, tmps, assign, body, hy, hR⟩ := (HYX nq).out
        gi_wp2
        refine ⟨fun h => (by cases h), hR.mono ?_⟩
        rintro e W3 (⟨rfl, hJ3, hk3⟩ | ⟨rfl, hJx3⟩)
        · have HJ3 := Lib.hid hJ3
          have HK3 : Hid (mkKp Bs Bn W W3) := ⟨hk3.1.trans HW.out.1, hk3.2.trans HW.out.2⟩
          have hc3 : W3.cell? ⟨Bn, 0, none⟩ = some (.int .i64 23) := (World.cell?_of_block HK3.out.2).trans hBn
          clear hJ3 hk3
          gi_wp2
          go_roundw
          case rel => exact ⟨k + 1, pre ++ [x], by rw [HI.out]; go_num, by unfold mkN; have := HI.out; omega, ⟨by rw [List.map_append, HP.out, List.range_succ, ← HX.out]; rfl, HJ3.out, HK3.out⟩⟩
          case measure => simp [intOf]; omega
        · have HJ3 := Lib.hid hJx3
          clear hJx3
          gi_wp2
          refine bodyPost_ret (results_none rfl _ _ _) rfl ?_
          exact ⟨⟨_, rfl⟩, .inr ⟨pre ++ [x], ⟨k + 1, by unfold mkN; have := HI.out; omega, by rw [List.map_append, HP.out, List.range_succ, ← HX.out]; rfl⟩, HJ3.out⟩⟩
    · gi_wp2
      go_end0
      exact ⟨⟨_, rfl⟩, .inl ⟨pre, by rw [H.out.1]; congr 1; unfold mkN at hk ⊢; omega, H.out.2.1⟩⟩

/-- slices.Chunk -/
theorem mchunk_calls (A : Option Addr) (len cap : Nat) (w : World) :
    Calls Tryz.prog 53 #[.slice A len cap, .int .i64 23] w fun e w' => e = .returned (.func (.func 80) #[] #[.pointer (some ⟨w.heap.size, 0, none⟩), .pointer (some ⟨w.heap.size + 1, 0, none⟩)]) ∧
      w' = (w.alloc (.cells #[.slice A len cap] 100)).alloc (.cells #[.int .i64 23] 3) := by
  go_enter Tryz.func53, Tryz.ntmps53
  go_wp2
  go_ret
  exact ⟨by simp, rfl⟩

/-- what Chunk hands back, for every body that keeps its two boxes -/
theorem mchunk_stops (n : Nat) (Bs Bn : Nat) (A : Option Addr) (len cap : Nat) (hlc : len ≤ cap) (hlen : len ≤ 140737488351232) (w : World) (hBs : Bs < w.heap.size) (hBn : Bn < w.heap.size)
    (hc : w.cell? ⟨Bs, 0, none⟩ = some (.slice A len cap)) (hc2 : w.cell? ⟨Bn, 0, none⟩ = some (.int .i64 23)) :
    SeqStopsK Fence.wide n Tryz.prog 80 #[.pointer (some ⟨Bs, 0, none⟩), .pointer (some ⟨Bn, 0, none⟩)] (fun x : MkIx len => #[mkV A len x.1]) (mkKp Bs Bn) (fun xs => xs.map (·.1) = List.range (mkN len)) (fun pre => ∃ k, k ≤ mkN len ∧ pre.map (·.1) = List.range k) (mkN len) w :=
  fun l J Jx W hW hJ _ hY h0 => mchunk1_in n l Bs Bn W.heap.size A len cap hlc hlen J Jx hJ hY W ((hW.cell (p := ⟨Bs, 0, none⟩) hBs).trans hc) ((hW.cell (p := ⟨Bn, 0, none⟩) hBn).trans hc2) h0
end Go.Proofs.YtplpbbdakihnfaaGreat
end

/- A loop over an iterator that is left early, by a body that may make maps: what is said where it is left need only outlive the loop's own record. -/
section
namespace Go.Proofs.YtplpbbdakihnfaaGreat
open Go.RowKit
set_option linter.unusedSimpArgs false
set_option linter.unusedVariables false

theorem wpIn_rngStop {F : Fence} {n : Nat} {P : Program} {α : Type} {g : Operand} {ps : Array Tmp} {assign body : Code} {Q : Exit → Act → World → Prop} {a : Act} {w : World}
    (hro : F.round = none) (h1 : 1 ≤ n) {gf : Nat} {lb : Array Value} (hg : a.eval g = .func (.func gf) #[] lb) (hFg : F.fn gf) (eg : ∀ args w, (callFunc gf args).run P w = .ok (.enter gf args) w)
    {encs : α → Array Value} {Kp : World → World → Prop} {S Sp : List α → Prop} {N : Nat}
    (hseq : ∀ (l : Nat) (J Jx : List α → World → Prop) (W : World), Below w.heap.size w W → AbidesFrom W.heap.size J →
      (∀ pre x W1, J pre W1 → pre.length < N → YieldAt F (n - 1 - 1) P l (encs x) W1 fun e W' =>
        (e = .returned (.bool true) ∧ J (pre ++ [x]) W' ∧ Kp W1 W') ∨ (e = .returned (.bool false) ∧ Jx (pre ++ [x]) W')) →
      J [] W → CallsIn F (n - 1) P gf (#[.func (.yield l) #[] #[]] ++ lb) W fun e W' => (∃ v, e = .returned v) ∧ ((∃ xs, S xs ∧ J xs W') ∨ (∃ pre, Sp pre ∧ Jx pre W')))
    (hKt : ∀ {A B C : World}, Kp A B → Kp B C → Kp A C) (hKb : ∀ (W : World) (l : Nat) (o o' : Obj), w.heap.size ≤ l → W.heap[l]? = some o → o.isCells = false → o.isWalk = false → Kp W (W.putObj l o'))
    (hps : ∀ x, (encs x).size = ps.size)
    (I : List α → World → Prop) (Ix : Code → List α → World → Prop) (hI : OwnFrom w.heap.size I)
    (hIx : ∀ c pre W r o, Ix c pre W → W.heap[w.heap.size + 1]? = some (.loop r) → Ix c pre (W.putObj (w.heap.size + 1) o)) (h0 : I [] w) (a₁ : α → Act)
    (hassign : ∀ (l : Nat) (x : α) (W : World) (K : Act → World → Prop), K (a₁ x) W →
      assign.wpIn (F.inRound l) (n - 1 - 1) P (Exit.then K (fun _ _ _ => False)) { tmps := (ps.zip (encs x)).foldl (fun t (p, v) => t.setIfInBounds p v) a.tmps, defers := [] } W)
    (hbody : ∀ (l : Nat) (pre : List α) (x : α) (W : World), I pre W → pre.length < N → body.wpIn (F.inRound l) (n - 1 - 1) P (ownPostG w.heap.size Kp I Ix (pre ++ [x]) W) (a₁ x) W)
    (hdone : ∀ (D : Nat) (xs : List α) (W : World), w.heap.size ≤ D → S xs → I xs W → W.heap[D]? = some (.deferred (some [])) → Q .normal { a with defers := { target := .collected D, args := #[] } :: a.defers } W)
    (hstop : ∀ (D : Nat) (c : Code) (pre : List α) (W : World), w.heap.size ≤ D → Sp pre → Ix c pre W → W.heap[D]? = some (.deferred (some [])) → c.wpIn F n P Q { a with defers := { target := .collected D, args := #[] } :: a.defers } W) :
    (Code.rangeFunc g ps assign body).wpIn F n P Q a w := by
  refine wpIn_rangeFunc ?_
  intro fn hfn
  rw [hro]
  obtain ⟨rec, hrec⟩ : ∃ rec : LoopState → Option Code → Loop, rec = fun st pe => { state := st, pending := pe, fn, tmps := a.tmps, params := ps, assign, body, defers := w.heap.size } := ⟨_, rfl⟩
  obtain ⟨U, hU⟩ : ∃ U, (w.alloc (.deferred (some []))).alloc (.loop (rec .ready none)) = U := ⟨_, rfl⟩
  have hUl : U.heap[w.heap.size + 1]? = some (.loop (rec .ready none)) := by
    have h9 := World.alloc_heap_new (w.alloc (.deferred (some []))) (.loop (rec .ready none))
    rw [World.size_alloc] at h9
    rw [← hU]; exact h9
  have hUd : U.heap[w.heap.size]? = some (.deferred (some [])) := by
    rw [← hU]; exact (Below.heap_alloc _ _ _ (by simp)).trans (World.alloc_heap_new w _)
  have hUi : I [] U := by rw [← hU]; exact hI.alloc _ (hI.alloc _ h0)
  have hUb : Below w.heap.size w U := by
    rw [← hU]; exact (((Below.refl _ w).alloc (Nat.le_refl _) _).alloc (by simp) _)
  have hUs : w.heap.size + 1 < U.heap.size := (Array.getElem?_eq_some_iff.1 hUl).1
  refine ⟨w.heap.size + 1, [{ target := .collected w.heap.size, args := #[] }], U, { target := .fn (.func gf) lb, args := #[.func (.yield (w.heap.size + 1)) #[] #[]] }, U, gf,
    #[.func (.yield (w.heap.size + 1)) #[] #[]] ++ lb, U, ?_, ?_, ?_, ?_, fun _ => h1, ?_⟩
  · rw [← hU, hrec]; exact run_enterLoop_outer _ _ _ _ _
  · simp only [resolve, hg]
    simp [go_sem]
  · intro f' hf'; simp [Target.leads] at hf'; subst hf'; exact hFg
  · simp [invoke, go_sem, eg]
  · refine (hseq (w.heap.size + 1)
      (fun pre W => I pre W ∧ W.heap[w.heap.size + 1]? = some (.loop (rec .ready none)) ∧ W.heap[w.heap.size]? = some (.deferred (some [])))
      (fun pre W => ∃ c, Ix c pre W ∧ W.heap[w.heap.size + 1]? = some (.loop (rec .done (some c))) ∧ W.heap[w.heap.size]? = some (.deferred (some [])))
      U hUb
      (fun s A B row hs hg' hr => ⟨hI s A B row hs.1 hg' (fun r e => by obtain ⟨q1, o, q2, q3⟩ := hr r e; exact ⟨by omega, o, q2, Obj.not_cells_of_walk q3⟩), (grownBy_keeps hg' (fun r e => (hr r e).2) hs.2.1 rfl).trans hs.2.1, (grownBy_keeps hg' (fun r e => (hr r e).2) hs.2.2 rfl).trans hs.2.2⟩)
      ?_ ⟨hUi, hUl, hUd⟩).mono ?_
    · rintro pre x W ⟨hi, hl, hk⟩ hlen
      have hlt : w.heap.size + 1 < W.heap.size := (Array.getElem?_eq_some_iff.1 hl).1
      have hy := run_yield (P := P) (args := encs x) hl (by rw [hrec]; exact hps x)
      rw [hrec] at hy
      refine ⟨fn, _, assign, body, hy, roundIn_of_wpIn hfn (hassign _ x W _ ⟨_, run_beginRound hl (by rw [hrec]), ?_⟩)⟩
      obtain ⟨bz, hbz⟩ : ∃ bz : Obj, bz = .loop { rec .ready none with state := .busy } := ⟨_, rfl⟩
      have hl2 : (W.putObj (w.heap.size + 1) (.loop { rec .ready none with state := .busy })).heap[w.heap.size + 1]? = some (.loop { rec .ready none with state := .busy }) := World.putObj_heap_same hlt
      have hk2 : (W.putObj (w.heap.size + 1) (.loop { rec .ready none with state := .busy })).heap[w.heap.size]? = some (.deferred (some [])) := (World.putObj_heap_other (by omega)).trans hk
      have hw2 : Kp W (W.putObj (w.heap.size + 1) (.loop { rec .ready none with state := .busy })) := hKb _ _ _ _ (by omega) hl rfl rfl
      refine wpIn_mono (hbody _ pre x _ (hI.putObj _ hi (by omega) hl rfl) hlen) ?_
      have close : ∀ (jump : Option Code) (V : World), KeepsFrom w.heap.size (W.putObj (w.heap.size + 1) (.loop { rec .ready none with state := .busy })) V →
          (Instr.endRound (w.heap.size + 1) jump).run P V = .ok (.bool jump.isNone) (V.putObj (w.heap.size + 1) (.loop (rec (if jump.isNone then .ready else .done) jump))) ∧
          V.heap[w.heap.size + 1]? = some (.loop { rec .ready none with state := .busy }) ∧
          (V.putObj (w.heap.size + 1) (.loop (rec (if jump.isNone then .ready else .done) jump))).heap[w.heap.size + 1]? = some (.loop (rec (if jump.isNone then .ready else .done) jump)) ∧
          (V.putObj (w.heap.size + 1) (.loop (rec (if jump.isNone then .ready else .done) jump))).heap[w.heap.size]? = some (.deferred (some [])) := fun jump V hv => by
        have hl3 := hv.same _ _ (by omega) hl2 rfl
        have hrun := run_endRound (P := P) jump hl3
        rw [hrec] at hrun ⊢
        exact ⟨hrun, by rw [hrec] at hl3; exact hl3, World.putObj_heap_same (Array.getElem?_eq_some_iff.1 hl3).1, (World.putObj_heap_other (by omega)).trans (hv.same _ _ (Nat.le_refl _) hk2 rfl)⟩
      have leave : ∀ (c : Code) (V : World), KeepsFrom w.heap.size (W.putObj (w.heap.size + 1) (.loop { rec .ready none with state := .busy })) V → Ix c (pre ++ [x]) V →
          (Instr.endRound (w.heap.size + 1) (some c)).run P V = .ok (.bool false) (V.putObj (w.heap.size + 1) (.loop (rec .done (some c)))) ∧
          Ix c (pre ++ [x]) (V.putObj (w.heap.size + 1) (.loop (rec .done (some c)))) ∧
          (V.putObj (w.heap.size + 1) (.loop (rec .done (some c)))).heap[w.heap.size + 1]? = some (.loop (rec .done (some c))) ∧ (V.putObj (w.heap.size + 1) (.loop (rec .done (some c)))).heap[w.heap.size]? = some (.deferred (some [])) := fun c V hv hx => by
        obtain ⟨q1, q2, q3, q4⟩ := close (some c) V hv
        exact ⟨q1, hIx _ _ _ _ _ hx q2, q3, q4⟩
      rintro e a3 V hp
      cases e with
      | normal =>
        obtain ⟨hv, hkp, hi3⟩ := hp
        obtain ⟨q1, q2, q3, q4⟩ := close none V hv
        exact ⟨_, _, q1, .inl ⟨rfl, ⟨hI.putObj _ hi3 (by omega) q2 rfl, q3, q4⟩, hKt (hKt hw2 hkp) (hKb _ _ _ _ (by omega) q2 rfl rfl)⟩⟩
      | ret =>
        obtain ⟨q1, q2, q3, q4⟩ := leave .ret V hp.1 hp.2
        exact ⟨_, _, q1, .inr ⟨rfl, .ret, q2, q3, q4⟩⟩
      | exit id =>
        obtain ⟨q1, q2, q3, q4⟩ := leave (.exit id) V hp.1 hp.2
        exact ⟨_, _, q1, .inr ⟨rfl, .exit id, q2, q3, q4⟩⟩
      | goto t =>
        obtain ⟨q1, q2, q3, q4⟩ := leave (.goto t) V hp.1 hp.2
        exact ⟨_, _, q1, .inr ⟨rfl, .goto t, q2, q3, q4⟩⟩
      | panic ch => exact hp.elim
      | outgrown => exact hp.elim
    · rintro e V ⟨⟨v, rfl⟩, (⟨xs, hS, hi, hl, hk⟩ | ⟨pre, hSp, c, hi, hl, hk⟩)⟩
      · exact ⟨none, _, by have h9 := run_endLoop (P := P) hl (by rw [hrec]; simp); rw [hrec] at h9; exact h9, hdone _ xs _ (Nat.le_refl _) hS (hI.putObj _ hi (by omega) hl rfl) ((World.putObj_heap_other (by omega)).trans hk)⟩
      · exact ⟨some c, _, by have h9 := run_endLoop (P := P) hl (by rw [hrec]; simp); rw [hrec] at h9; exact h9, hstop _ c pre _ (Nat.le_refl _) hSp (hIx _ _ _ _ _ hi hl) ((World.putObj_heap_other (by omega)).trans hk)⟩
end Go.Proofs.YtplpbbdakihnfaaGreat
end

/- What Remove does, in plain Lean; what its rounds keep. -/
section
namespace Go.Proofs.YtplpbbdakihnfaaGreat
open Go.RowKit
open Go.ChangeMaps (setBlock)
set_option linter.unusedSimpArgs false
set_option linter.unusedVariables false

def ses (sm : List (ByteArray × Bool)) : List (ByteArray × Value) := sm.map fun p => (p.1, .bool p.2)
theorem aget_ses (sm : List (ByteArray × Bool)) (k : ByteArray) : aget (ses sm) k = (aget sm k).map fun v => .bool v := by
  induction sm with
  | nil => rfl
  | cons p r ih =>
    simp only [ses, List.map_cons, aget] at ih ⊢
    split
    · rfl
    · exact ih
theorem aset_ses (sm : List (ByteArray × Bool)) (k : ByteArray) (v : Bool) : aset (ses sm) k (.bool v) = ses (aset sm k v) := by
  induction sm with
  | nil => rfl
  | cons p r ih =>
    simp only [ses, List.map_cons, aset] at ih ⊢
    split
    · rfl
    · rw [List.map_cons, ih]
abbrev tSeen : TypeId := 101
theorem zero_bool (W : World) : (zeroValue 4).run Tryz.prog W = .ok (.bool false) W := by kernel_rfl
theorem look_ses {w : World} {sm : List (ByteArray × Bool)} {M : Nat} (hm : MapIs skey w M (ses sm)) (k : ByteArray) : (Instr.lookup tSeen (.map (some M)) (.string k) false).run Tryz.prog w = .ok (.bool ((aget sm k).getD false)) w := by
  have := hm.lookup (P := Tryz.prog) (keyLaw_string (Tryz.underlying9)) Tryz.underlying101 (zero_bool w) k false
  rw [aget_ses] at this
  rw [if_neg (by decide)] at this
  cases hk : aget sm k <;> rw [hk] at this <;> exact this
theorem own_map {κ : Type} [DecidableEq κ] {K : κ → Value} {w : World} {M base e size n : Nat} {v : Value} {xs : List Value} {es : List (κ × Value)} (hm : MapIs K w M es) (ho : w.ownsRow base e size v n xs) : v.ownBlock ≠ some M := by
  rcases ho.2 with ⟨rfl, _⟩ | ⟨g', cap, cur, rfl, _, hh, _⟩
  · simp [Value.ownBlock]
  · intro he
    have e1 : g' = M := by simpa [Value.ownBlock] using he
    exact hm.ne_blk hh e1.symm

namespace Eng
def rmOne (X : Eng) (s : List Mk × List (ByteArray × Bool)) (k : ByteArray) : List Mk × List (ByteArray × Bool) :=
  (if ((aget s.2 k).getD false) = false ∧ X.may k = true then s.1 ++ [(key k, X.last)] else s.1, aset s.2 k true)
/-- the marks that Remove makes; the keys seen -/
def rmL (X : Eng) (ks : List ByteArray) : List Mk × List (ByteArray × Bool) := ks.foldl X.rmOne ([], [])
theorem rmL_take (X : Eng) {ks : List ByteArray} {i : Nat} {k : ByteArray} (h : ks[i]? = some k) : X.rmL (ks.take (i + 1)) = X.rmOne (X.rmL (ks.take i)) k := by
  unfold rmL
  rw [List.take_add_one, h, Option.toList, List.foldl_append]; rfl
theorem rmL_len (X : Eng) (ks : List ByteArray) : (X.rmL ks).1.length ≤ ks.length := by
  have h : ∀ (ks : List ByteArray) (s : List Mk × List (ByteArray × Bool)), (ks.foldl X.rmOne s).1.length ≤ s.1.length + ks.length := by
    intro ks
    induction ks with
    | nil => intro s; simp
    | cons k r ih =>
      intro s
      rw [List.foldl_cons]
      refine Nat.le_trans (ih _) ?_
      simp only [List.length_cons]
      have : (X.rmOne s k).1.length ≤ s.1.length + 1 := by
        unfold rmOne
        simp only
        split <;> simp
      omega
  have := h ks ([], [])
  simpa [rmL] using this
theorem rmL_mem (X : Eng) (ks : List ByteArray) : ∀ m ∈ (X.rmL ks).1, ∃ k ∈ ks, m = (key k, X.last) := by
  have h : ∀ (ks : List ByteArray) (s : List Mk × List (ByteArray × Bool)), ∀ m ∈ (ks.foldl X.rmOne s).1, m ∈ s.1 ∨ ∃ k ∈ ks, m = (key k, X.last) := by
    intro ks
    induction ks with
    | nil => intro s m hm; exact .inl hm
    | cons k r ih =>
      intro s m hm
      rw [List.foldl_cons] at hm
      rcases ih _ m hm with h1 | ⟨k', h1, h2⟩
      · unfold rmOne at h1
        simp only at h1
        split at h1
        · rcases List.mem_append.1 h1 with h1 | h1
          · exact .inl h1
          · exact .inr ⟨k, List.mem_cons_self, by simpa using h1⟩
        · exact .inl h1
      · exact .inr ⟨k', List.mem_cons_of_mem _ h1, h2⟩
  intro m hm
  rcases h ks ([], []) m hm with h1 | h1
  · cases h1
  · exact h1
/-- marks of a chunk are added -/
def addX (X : Eng) (D : Dev) (l : List Mk) : Eng := { X with J := X.J.addJ D l }
/-- chunks of marks are added from the j-th on, till one is not OK; where the journal is full, all is wiped -/
def rmGo (l : List Mk) : Nat → Nat → Eng → Dev → Int × Eng × Dev
  | 0, _, X, D => (0, X, D)
  | f + 1, j, X, D =>
    if X.J.addE D ((l.drop (j * 23)).take 23) = 0 then rmGo l f (j + 1) (X.addX D ((l.drop (j * 23)).take 23)) (X.J.addD D ((l.drop (j * 23)).take 23))
    else if X.J.addE D ((l.drop (j * 23)).take 23) = 7 then ((X.addX D ((l.drop (j * 23)).take 23)).wipeE (X.J.addD D ((l.drop (j * 23)).take 23)), (X.addX D ((l.drop (j * 23)).take 23)).wipeX (X.J.addD D ((l.drop (j * 23)).take 23)), (X.J.addD D ((l.drop (j * 23)).take 23)).stD (X.addX D ((l.drop (j * 23)).take 23)).wB)
    else (X.J.addE D ((l.drop (j * 23)).take 23), X.addX D ((l.drop (j * 23)).take 23), X.J.addD D ((l.drop (j * 23)).take 23))
def rm (X : Eng) (D : Dev) (ks : List ByteArray) : Int × Eng × Dev := rmGo (X.rmL ks).1 (mkN (X.rmL ks).1.length) 0 X D
/-- an engine on a device, the power on -/
structure Fit (X : Eng) (D : Dev) : Prop where
  on : D.On
  ls : X.losses = D.losses
  jls : X.J.losses = D.losses
  n2 : 2 ≤ D.n
  first : 2 ≤ X.J.first
  jfit : X.J.first + X.J.pages ≤ D.n
  seq : D.sload.seq + 1 < 18446744073709551616
  gen : X.blk.gen + 1 < 18446744073709551616
end Eng
theorem sload_same {D D' : Dev} (hD : D.On) (hD' : D'.On) (hn : D'.n = D.n) (hp : ∀ i, i < 2 → D'.page i = D.page i) : D'.sload = D.sload := by
  have hr : ∀ i : Nat, i < 2 → D'.read (i : Int) = D.read (i : Int) ∧ D'.readE (i : Int) = D.readE (i : Int) := by
    intro i hi
    unfold Dev.read Dev.readE Dev.has
    rw [hn, hD.off, hD'.off]
    have e : (i : Int).toNat = i := Int.toNat_natCast i
    rw [e, hp i hi]
    exact ⟨rfl, rfl⟩
  have h0 := hr 0 (by omega)
  have h1 := hr 1 (by omega)
  unfold Dev.sload Dev.sbs Dev.sbs Dev.sbs
  rw [h0.1, h0.2, h1.1, h1.2]
theorem jnPage_le (gen : Nat) (l : List Mk) (h : l.length ≤ 23) : (jnPage gen l).length ≤ 384 := by rw [jnPage_len]; omega
/-- what Add does to the device -/
theorem addD_on {J : Jn} {D : Dev} (hD : D.On) (hf : J.first + J.pages ≤ D.n) (l : List Mk) (hl : l.length ≤ 23) :
    (J.addD D l).On ∧ (J.addD D l).n = D.n ∧ (J.addD D l).losses = D.losses ∧ (∀ i, (i < J.first ∨ J.first + J.pages ≤ i) → (J.addD D l).page i = D.page i) := by
  unfold Jn.addD
  split
  · exact ⟨hD, rfl, rfl, fun _ _ => rfl⟩
  · rename_i hh
    have hroom : J.room ≠ 0 := fun e => hh (.inr e)
    unfold Jn.room at hroom
    rw [if_neg (by rw [hD.changeE]; simp)]
    have hw := hD.write (k := J.first + J.used) (by omega) (jnPage_le J.gen l hl)
    have hfl := hw.2.1.flush
    unfold Jn.wD Jn.at_
    refine ⟨hfl.1, hfl.2.1.trans hw.2.2.1, hfl.2.2.1.trans hw.2.2.2.1, fun i hi => ?_⟩
    rw [hfl.2.2.2.1 i, hw.2.2.2.2 i, if_neg (by omega)]
theorem addJ_facts (J : Jn) (D : Dev) (l : List Mk) : (J.addJ D l).first = J.first ∧ (J.addJ D l).pages = J.pages ∧ (J.addJ D l).losses = J.losses ∧ (J.addJ D l).gen = J.gen := by
  unfold Jn.addJ
  split
  · exact ⟨rfl, rfl, rfl, rfl⟩
  · split <;> exact ⟨rfl, rfl, rfl, rfl⟩
theorem Eng.Fit.add {X : Eng} {D : Dev} (h : X.Fit D) (l : List Mk) (hl : l.length ≤ 23) : (X.addX D l).Fit (X.J.addD D l) := by
  obtain ⟨h1, h2, h3, h4⟩ := addD_on h.on h.jfit l hl
  obtain ⟨j1, j2, j3, j4⟩ := addJ_facts X.J D l
  have hs : (X.J.addD D l).sload = D.sload := sload_same h.on h1 h2 (fun i hi => h4 i (.inl (by have := h.first; omega)))
  exact ⟨h1, by show X.losses = _; rw [h3]; exact h.ls, by show (X.J.addJ D l).losses = _; rw [j3, h3]; exact h.jls, by rw [h2]; exact h.n2, by show 2 ≤ (X.J.addJ D l).first; rw [j1]; exact h.first, by show (X.J.addJ D l).first + (X.J.addJ D l).pages ≤ _; rw [j1, j2, h2]; exact h.jfit, by rw [hs]; exact h.seq, h.gen⟩
section
variable {N : Nat} {S : Nat → Prop} {w w' : World} {h : DevH} {t : EngH} {X : Eng} {D : Dev}
/-- the journal did something -/
theorem EngAt.jrn {J' : Jn} (he : EngAt w h t X) (hd : DevN N w h D) (hc : Chg (fun k => h.foot k ∨ t.j.own k) w w') (hj : JnAt w' h t.j J') (hf : J'.first + J'.pages ≤ 4096) : EngAt w' h t { X with J := J' } := by
  have hjb := he.jn.box
  have hne : ∀ {g : Nat} {T : TypeId} {cs : Array Value}, Blk w g T cs → T ≠ tDev → T ≠ tPP → T ≠ tJn → ¬ (h.foot g ∨ t.j.own g) := by
    intro g T cs hb h1 h2 h3
    rintro (h4 | h4 | h4)
    · exact hd.not_foot hb h1 h2 h4
    · subst h4
      unfold Blk at hb hjb
      rw [hb] at hjb
      injection hjb with e
      injection e with _ e
      exact h3 e
    · exact he.jn.map.ne_blk hb h4.symm
  exact { box := he.box.chg hc (hne he.box (by decide) (by decide) (by decide)), jn := hj,
          sto := he.sto.chg hc (fun g cs T hT hb => by rcases hT with rfl | rfl | rfl | rfl <;> exact hne hb (by decide) (by decide) (by decide)),
          lg := he.lg.mixed hd hc (fun k hk hj => he.jg k hj hk), jg := he.jg, sg := he.sg, eg := he.eg, blk := he.blk, last := he.last, jfit := hf, pos := he.pos }
theorem EngAt.not_jrn {g : Nat} {T : TypeId} {cs : Array Value} {fz : Nat × Nat} (he : EngAt w h t X) (hd : DevN N w h D) (hb : w.heap[g]? = some (.cells cs T fz)) (h1 : T ≠ tDev) (h2 : T ≠ tPP) (h3 : T ≠ tJn) : ¬ (h.foot g ∨ t.j.own g) := by
  have hjb := he.jn.box
  rintro (h4 | h4 | h4)
  · exact hd.not_foot hb h1 h2 h4
  · subst h4
    unfold Blk at hjb
    rw [hb] at hjb
    injection hjb with e
    injection e with _ e
    exact h3 e
  · exact he.jn.map.ne_blk hb h4.symm
/-- a change of what is none of its blocks -/
theorem EngAt.chgS (he : EngAt w h t X) (hc : Chg S w w') (h1 : ∀ g T cs, Blk w g T cs → ¬ S g) (h2 : ¬ S t.j.M) (h3 : ∀ k, t.g.own k → ¬ S k) : EngAt w' h t X :=
  { he with
    box := he.box.chg hc (h1 _ _ _ he.box)
    jn := he.jn.chg hc (fun k hk => by
      rcases hk with rfl | rfl
      · exact h1 _ _ _ he.jn.box
      · exact h2)
    sto := he.sto.chg hc (fun g cs T _ hb => h1 _ _ _ hb)
    lg := he.lg.chg hc h3 }
/-- a change of a block that is no cells, and lies beyond -/
theorem EngAt.row {B : Nat} {U U' : World} {row : Option Nat} (he : EngAt U h t X) (hg : U.grownBy U' row) (hr : ∀ r, row = some r → B ≤ r ∧ ∃ o : Obj, U.heap[r]? = some o ∧ o.isCells = false) (hM : t.j.M < B) (hG : ∀ k, t.g.own k → k < B) : EngAt U' h t X := by
  refine he.chgS (S := fun i => row = some i) (Chg.grown (Chg.refl _ _) hg (fun k e => .inl e)) (fun g T cs hb e => ?_) (fun e => by have := (hr _ e).1; omega) (fun k hk e => by have := (hr _ e).1; have := hG k hk; omega)
  obtain ⟨_, o, ho, hoc⟩ := hr g e
  unfold Blk at hb
  rw [ho] at hb
  injection hb with hb
  subst hb
  cases hoc
theorem dev_row2 {U U' : World} {row : Option Nat} (hd : DevN N U h D) (hg : U.grownBy U' row) (hr : ∀ r, row = some r → ¬ h.foot r ∧ ∃ o : Obj, U.heap[r]? = some o ∧ o.isCells = false) : DevAt U' h D := by
  have hn : ∀ g cs t, Blk U g t cs → ¬ row = some g := by
    intro g cs t hb e
    obtain ⟨_, o, ho, hc⟩ := hr g e
    unfold Blk at hb
    rw [ho] at hb
    injection hb with hb
    subst hb
    cases hc
  exact (hd.chg (S := fun i => row = some i) (Chg.grown (Chg.refl _ _) hg (fun k e => .inl e)) (fun e => (hr _ e).1 (.inl rfl)) (fun e => (hr _ e).1 (.inr (.inl rfl))) (fun e => (hr _ e).1 (.inr (.inr rfl))) (fun g cs t _ _ hb => hn g cs t hb)).at_
theorem blk_row2 {U U' : World} {row : Option Nat} (hg : U.grownBy U' row) (hr : ∀ r, row = some r → ∃ o : Obj, U.heap[r]? = some o ∧ o.isCells = false) {g : Nat} {t : TypeId} {cs : Array Value} (hb : Blk U g t cs) : Blk U' g t cs := by
  refine hb.chg (S := fun i => row = some i) (Chg.grown (Chg.refl _ _) hg (fun k e => .inl e)) ?_
  intro e
  obtain ⟨o, ho, hc⟩ := hr g e
  unfold Blk at hb
  rw [ho] at hb
  injection hb with hb
  subst hb
  cases hc
theorem rd_row2 {U U' : World} {row : Option Nat} (hg : U.grownBy U' row) (hr : ∀ r, row = some r → ∃ o : Obj, U.heap[r]? = some o ∧ o.isCells = false) {t : TypeId} {A : Option Addr} {k : Nat} {xs : List Value} (h : Rd U t A k xs) : Rd U' t A k xs := by
  refine h.chg (S := fun i => row = some i) (Chg.grown (Chg.refl _ _) hg (fun k e => .inl e)) ?_
  intro g cur fz hb e
  obtain ⟨o, ho, hc⟩ := hr g e
  rw [ho] at hb
  injection hb with hb
  subst hb
  cases hc
theorem put_cell2 {W : World} {Dd g : Nat} {t : TypeId} {cs : Array Value} (hK : W.heap[Dd]? = some (.deferred (some []))) (hb : Blk W g t cs) : Blk (W.putObj Dd (.deferred none)) g t cs := by
  have hne : g ≠ Dd := by
    rintro rfl
    unfold Blk at hb
    rw [hb] at hK
    cases hK
  exact (World.putObj_heap_other hne).trans hb
theorem put_chg2 (W : World) (Dd : Nat) (o : Obj) : Chg (fun i => i = Dd) W (W.putObj Dd o) :=
  Chg.grown (Chg.refl _ _) (grownBy_putObj' W Dd o) (fun k e => .inl (by cases e; rfl))
theorem keeps_chg2 {B0 : Nat} {U W : World} (hc : Chg S U W) (hs : ∀ i, B0 ≤ i → S i → ∃ T cs, Blk U i T cs) : KeepsFrom B0 U W :=
  ⟨hc.size, fun k o hk ho hoc => by
    refine hc.at_ ho (fun hS => ?_)
    obtain ⟨T, cs, hb⟩ := hs k hk hS
    unfold Blk at hb
    rw [hb] at ho
    injection ho with ho
    subst ho
    cases hoc⟩
theorem wp_slots2 {P : Program} {c : Code} {Q : Exit → Act → World → Prop} {a : Act} {w : World} (F : (Nat → Value) → Act) (R : World → Prop) (h1 : a = F (fun i => a.tmps.getD i undef)) (h : R w) (hh : ∀ Y w', R w' → c.wp P Q (F Y) w') : c.wp P Q a w := by
  rw [h1]
  exact hh _ _ h
end
abbrev tPEng : TypeId := 27
abbrev tErrn : TypeId := 24
namespace Eng
def ckm (l : List Mk) (j : Nat) : List Mk := (l.drop (j * 23)).take 23
/-- what a round that is not OK makes of all -/
def stopOf (X : Eng) (D : Dev) (c : List Mk) : Int × Eng × Dev :=
  if X.J.addE D c = 7 then ((X.addX D c).wipeE (X.J.addD D c), (X.addX D c).wipeX (X.J.addD D c), (X.J.addD D c).stD (X.addX D c).wB)
  else (X.J.addE D c, X.addX D c, X.J.addD D c)
/-- chunks that were added, all of them OK -/
inductive Adds (l : List Mk) (X : Eng) (D : Dev) : List Nat → Eng → Dev → Prop
  | nil : Adds l X D [] X D
  | snoc {js : List Nat} {X' : Eng} {D' : Dev} (j : Nat) (h : Adds l X D js X' D') (h0 : X'.J.addE D' (ckm l j) = 0) : Adds l X D (js ++ [j]) (X'.addX D' (ckm l j)) (X'.J.addD D' (ckm l j))
theorem rmGo_ok {l : List Mk} {f j : Nat} {X : Eng} {D : Dev} (h : X.J.addE D (ckm l j) = 0) : rmGo l (f + 1) j X D = rmGo l f (j + 1) (X.addX D (ckm l j)) (X.J.addD D (ckm l j)) := by
  rw [rmGo]; exact if_pos h
theorem rmGo_stop {l : List Mk} {f j : Nat} {X : Eng} {D : Dev} (h : X.J.addE D (ckm l j) ≠ 0) : rmGo l (f + 1) j X D = X.stopOf D (ckm l j) := by
  rw [rmGo]; rw [if_neg (show ¬ X.J.addE D ((l.drop (j * 23)).take 23) = 0 from h)]; rfl
theorem Adds.go {l : List Mk} {X : Eng} {D : Dev} {js : List Nat} {X' : Eng} {D' : Dev} (h : Adds l X D js X' D') : ∀ k, js = List.range k → ∀ n, k ≤ n → rmGo l n 0 X D = rmGo l (n - k) k X' D' := by
  induction h with
  | nil =>
    intro k hk n hn
    have h0 : k = 0 := by have := congrArg List.length hk; simpa using this.symm
    subst h0; rfl
  | @snoc js X1 D1 j h h0 ih =>
    intro k hk n hn
    have h1 : k = js.length + 1 := by have := congrArg List.length hk; simpa using this.symm
    rw [h1, List.range_succ] at hk
    obtain ⟨e1, e2⟩ := List.append_inj' hk rfl
    injection e2 with e2
    rw [ih js.length e1 n (by omega), h1]
    obtain ⟨m, hm⟩ : ∃ m, n - js.length = m + 1 := ⟨n - js.length - 1, by omega⟩
    rw [hm, show n - (js.length + 1) = m from by omega]
    subst e2
    exact rmGo_ok h0
end Eng
theorem mks_drop (l : List Mk) (i : Nat) : mks (l.drop i) = (mks l).drop (i * 2) := by
  induction i generalizing l with
  | zero => simp
  | succ i ih =>
    cases l with
    | nil => simp [mks]
    | cons m r =>
      rw [List.drop_succ_cons, ih]
      show _ = (mkc m ++ mks r).drop _
      rw [show (i + 1) * 2 = i * 2 + 1 + 1 from by omega]
      simp [mkc]
theorem mks_take (l : List Mk) (i : Nat) : mks (l.take i) = (mks l).take (i * 2) := by
  induction i generalizing l with
  | zero => simp [mks]
  | succ i ih =>
    cases l with
    | nil => simp [mks]
    | cons m r =>
      rw [List.take_succ_cons]
      show mkc m ++ mks (r.take i) = (mkc m ++ mks r).take _
      rw [ih, show (i + 1) * 2 = i * 2 + 1 + 1 from by omega]
      simp [mkc]
theorem mkV_rd {U : World} {A : Option Addr} {nb : Nat} {l : List Mk} (hr : Rd U tMark A (nb * 2) (mks l)) (hl : l.length = nb) (x : MkIx nb) :
    ∃ A' m, mkV A nb x.1 = .slice A' m m ∧ (Eng.ckm l x.1).length = m ∧ 1 ≤ m ∧ m ≤ 23 ∧ Rd U tMark A' (m * 2) (mks (Eng.ckm l x.1)) := by
  have hx := x.2
  refine ⟨_, _, rfl, ?_, by omega, by omega, ?_⟩
  · unfold Eng.ckm
    rw [List.length_take, List.length_drop, hl]
  · have h1 := hr.drop (m := x.1 * 23 * 2) (by omega) False (fun h => h.elim)
    simp only [if_false] at h1
    have h2 := h1.take (m := min 23 (nb - x.1 * 23) * 2) (by omega)
    unfold Eng.ckm
    rw [mks_take, mks_drop]
    have e : ((mks l).drop (x.1 * 23 * 2)).take (23 * 2) = ((mks l).drop (x.1 * 23 * 2)).take (min 23 (nb - x.1 * 23) * 2) := by
      by_cases h23 : 23 ≤ nb - x.1 * 23
      · rw [Nat.min_eq_left h23]
      · have hlen : ((mks l).drop (x.1 * 23 * 2)).length = (nb - x.1 * 23) * 2 := by rw [List.length_drop, mks_length, hl]; omega
        rw [List.take_of_length_le (by omega), List.take_of_length_le (by rw [hlen]; omega)]
    rw [e]
    exact h2
theorem addE_on {X : Eng} {D : Dev} (h : X.Fit D) (l : List Mk) (hl : l.length ≤ 23) : X.J.addE D l = 0 ∨ X.J.addE D l = 7 := by
  unfold Jn.addE
  rw [if_neg (by simp [h.jls])]
  split
  · exact .inr rfl
  · rename_i hroom
    unfold Jn.room at hroom
    rw [if_neg (by rw [h.on.changeE]; simp)]
    have hw := h.on.write (k := X.J.first + X.J.used) (by have := h.jfit; omega) (jnPage_le X.J.gen l hl)
    unfold Jn.wD Jn.at_
    exact .inl hw.2.1.changeE
/-- between two rounds of Remove -/
structure RmMid (l : List Mk) (X : Eng) (D : Dev) (h : DevH) (t : EngH) (A : Option Addr) (nb cb : Nat) (w : World) (Bx G : Nat) (pre : List (MkIx nb)) (U : World) : Prop where
  st : ∃ X' D', Eng.Adds l X D (pre.map (·.1)) X' D' ∧ X'.Fit D' ∧ EngAt U h t X' ∧ DevAt U h D'
  bx : Blk U Bx tPEng #[.pointer (some ⟨t.E, 0, none⟩)]
  br : Blk U (Bx + 1) tErrn #[.int .i64 0]
  b1 : Blk U G tMarks #[.slice A nb cb]
  b2 : Blk U (G + 1) tInt #[.int .i64 23]
  rd : Rd U tMark A (nb * 2) (mks l)
  chg : Chg (fun k => h.foot k ∨ k = t.E ∨ t.j.own k) w U
/-- a round of Remove that ended it -/
structure RmCut (l : List Mk) (X : Eng) (D : Dev) (h : DevH) (t : EngH) (nb : Nat) (w : World) (Bx : Nat) (c : Code) (pre : List (MkIx nb)) (U : World) : Prop where
  ret : c = .ret
  st : ∃ js j X' D' M', (M' = t.j.M ∨ w.heap.size ≤ M') ∧ pre.map (·.1) = js ++ [j] ∧ Eng.Adds l X D js X' D' ∧ X'.J.addE D' (Eng.ckm l j) ≠ 0 ∧ EngAt U h { t with j := ⟨t.j.J, M'⟩ } (X'.stopOf D' (Eng.ckm l j)).2.1 ∧ DevAt U h (X'.stopOf D' (Eng.ckm l j)).2.2 ∧ Blk U (Bx + 1) tErrn #[.int .i64 (X'.stopOf D' (Eng.ckm l j)).1]
  chg : Chg (fun k => h.foot k ∨ k = t.E ∨ t.j.own k) w U
end Go.Proofs.YtplpbbdakihnfaaGreat
end
