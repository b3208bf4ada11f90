/- Packed texts: SupB, SumSpec, Sum, Bloom. -/
import Derived.Test.YtplpbbdakihnfaaGreatPq12
import Derived.Test.YtplpbbdakihnfaaGreatPq04
import Derived.Test.YtplpbbdakihnfaaGreatPq02
import Derived.Deep.LoopGhost
set_option linter.unusedSimpArgs false
set_option linter.unusedVariables false
section
namespace Go.Proofs.YtplpbbdakihnfaaGreat
open Go.RowKit
attribute [local go_sem ↓] Go.wp_at_zero Go.wp_at_succ
def sbE : Option Sb → Int
  | some _ => 0
  | none => 3
def sbD (o : Option Sb) : Sb := o.getD Sb.zero
abbrev tArr5 : TypeId := 158
def decA (pb : List UInt8) (k : Nat) : Array Value := ((List.range 5).map fun j => if j < k then .int .u64 (num (cut pb (4 + 8 * j) (12 + 8 * j)) : Nat) else .int .u64 0).toArray
theorem decA_set (pb : List UInt8) (k : Nat) (hk : k < 5) : (decA pb k).setIfInBounds k (.int .u64 (num (cut pb (4 + 8 * k) (12 + 8 * k)) : Nat)) = decA pb (k + 1) := by
  rcases (by omega : k = 0 ∨ k = 1 ∨ k = 2 ∨ k = 3 ∨ k = 4) with rfl | rfl | rfl | rfl | rfl <;> rfl
theorem rd_cell2 {w W : World} {t : TypeId} {g off n j : Nat} {xs : List Value} {u : Value} (h : Rd w t (some ⟨g, off, none⟩) n xs) (hc : Chg No w W) (hx : xs[j]? = some u) : W.cell? ⟨g, off + j, none⟩ = some u := by
  have hj : j < n := by rw [← h.1]; exact (List.getElem?_eq_some_iff.1 hx).1
  obtain ⟨g', off', e, _, hh⟩ := (h.chg hc (fun _ _ _ _ h => h)).at_ hj
  simp only [Option.some.injEq, Addr.mk.injEq, and_true] at e
  obtain ⟨rfl, rfl⟩ := e
  exact hh j u hx
set_option maxRecDepth 100000 in
set_option maxHeartbeats 4000000 in
theorem decode_calls (A : Option Addr) (n c : Nat) (pb : List UInt8) (w : World) (hr : Rd w tU8 A n (bys pb)) (hn : n ≤ 1000000) (hc : n ≤ c) :
    Calls Tryz.prog 63 #[.slice A n c] w fun e w' => e = .returned (.tuple #[sbV (sbD (Sb.dec pb)), .int .i64 (sbE (Sb.dec pb))]) ∧ Chg No w w' := by
  have hbl : pb.length = n := by rw [← bys_length]; exact hr.1
  by_cases h64 : n < 64
  · have hd : Sb.dec pb = none := by unfold Sb.dec; rw [if_neg (fun h => by omega)]
    rw [hd]
    have b1 : (n : Int) < 64 := by omega
    simp only [sbD, sbE, Option.getD_none]
    clear hr hbl
    go_enter Tryz.func63, Tryz.ntmps63
    go_wp2
    refine bodyPost_ret (v := .tuple #[sbV Sb.zero, .int .i64 3]) (by simp [results, Tryz.results63, go_sem, sbV, sbc, Sb.zero]) rfl ⟨rfl, by (repeat (first | (with_reducible exact Chg.refl _ _) | (with_reducible assumption) | (with_reducible refine Chg.drewN ?_ _) | (with_reducible refine Chg.drew ?_) | (with_reducible refine Chg.alloc ?_ _) | (with_reducible refine Chg.setCell ?_ (by first | (left; simp [DevH.foot]; done) | (right; simp; done) | (right; simp; omega)) _)))⟩
  · have b1 : ¬ (n : Int) < 64 := by omega
    obtain ⟨g, off, rfl, hg, hx⟩ := hr.at_ (j := 0) (by omega)
    clear hx
    have HR := Lib.hid hr
    have HBL := Lib.hid hbl
    clear hr hbl
    go_enter Tryz.func63, Tryz.ntmps63
    go_wp2
    obtain ⟨w1, hw1⟩ : ∃ w1 : World, w1 = (w.alloc (.cells #[.int .u64 0, .int .u64 0, .int .u64 0, .int .u64 0, .int .u64 0, .bool false, .int .i64 0] tSb)).alloc (.cells #[.int .u64 0, .int .u64 0, .int .u64 0, .int .u64 0, .int .u64 0] tArr5) := ⟨_, rfl⟩
    have HRB : Hid (Blk w1 w.heap.size tSb #[.int .u64 0, .int .u64 0, .int .u64 0, .int .u64 0, .int .u64 0, .bool false, .int .i64 0]) := by show Blk _ _ _ _; rw [hw1]; exact (Blk.new w _ _).alloc _
    have HLB : Hid (Blk w1 (w.heap.size + 1) tArr5 (decA pb 0)) := by
      show Blk _ _ _ _
      rw [hw1]
      have := Blk.new (w.alloc (.cells #[.int .u64 0, .int .u64 0, .int .u64 0, .int .u64 0, .int .u64 0, .bool false, .int .i64 0] tSb)) tArr5 #[.int .u64 0, .int .u64 0, .int .u64 0, .int .u64 0, .int .u64 0]
      simp only [World.size_alloc] at this
      exact this
    have HC1 : Hid (Chg No w w1) := by show Chg No w w1; rw [hw1]; (repeat (first | (with_reducible exact Chg.refl _ _) | (with_reducible assumption) | (with_reducible refine Chg.drewN ?_ _) | (with_reducible refine Chg.drew ?_) | (with_reducible refine Chg.alloc ?_ _) | (with_reducible refine Chg.setCell ?_ (by first | (left; simp [DevH.foot]; done) | (right; simp; done) | (right; simp; omega)) _)))
    rw [← hw1]
    clear hw1
    go_loopg [11] 5 (fun gk vi wr => ∃ k : Nat, gk = 5 - k ∧ k ≤ 5 ∧ vi = .int .i64 k ∧ Hid (Blk wr (w.heap.size + 1) tArr5 (decA pb k) ∧ Chg (fun j => j = w.heap.size + 1) w1 wr))
    case atStart => exact ⟨0, rfl, Nat.zero_le _, rfl, HLB.out, Chg.refl _ _⟩
    case round =>
      obtain ⟨k, rfl, hk, rfl, H⟩ := hrel
      rcases (by omega : k = 0 ∨ k = 1 ∨ k = 2 ∨ k = 3 ∨ k = 4 ∨ k = 5) with rfl | rfl | rfl | rfl | rfl | rfl
      ·
        obtain ⟨A1, hs1, hd1⟩ := sub_slice (P := Tryz.prog) Tryz.underlying40 ti_u8 (some ⟨g, off, none⟩) n c 4 12 (by omega) (by omega) (by omega)
        have hs1' : ∀ W : World, (Instr.sliceAt tBytes (.slice (some ⟨g, off, none⟩) n c) (some (.int .i64 4)) (some (.int .i64 12)) none).run Tryz.prog W = _ := fun W => (run_sliceAt_slice W tBytes _ _ _ _ Tryz.underlying40).trans (hs1 W)
        simp only [Int.reduceToNat, Nat.reduceSub] at hs1 hs1'
        have hC : Chg No w wr := HC1.out.then H.out.2 (fun i hi h => by omega)
        have hrd : Rd wr tU8 A1 8 (bys (cut pb 4 12)) := by unfold cut; rw [bys_take, bys_drop]; exact hd1 wr tU8 (bys pb) (by rw [Nat.mul_one]; exact HR.out.chg hC (fun _ _ _ _ h => h)) (by omega)
        obtain ⟨z, hz⟩ : ∃ z, z = num (cut pb 4 12) := ⟨_, rfl⟩
        have HNU := Lib.hid (snumber_calls A1 8 (c - 4) (cut pb 4 12) wr hrd (by omega))
        rw [← hz] at HNU
        have hfz := H.out.1.frozen 0
        have hcell : ∃ u, wr.cell? ⟨w.heap.size + 1, 0, none⟩ = some u := by
          rw [H.out.1.cell 0]
          exact ⟨_, Array.getElem?_eq_getElem (by simp [decA])⟩
        obtain ⟨u, hcell⟩ := hcell
        have HST : Hid (Blk (wr.setCell ⟨w.heap.size + 1, 0, none⟩ (.int .u64 z)) (w.heap.size + 1) tArr5 (decA pb (0 + 1)) ∧ Chg (fun j => j = w.heap.size + 1) w1 (wr.setCell ⟨w.heap.size + 1, 0, none⟩ (.int .u64 z))) := by
          have hs := H.out.1.set_ 0 (.int .u64 z)
          rw [hz, decA_set pb 0 (by omega)] at hs
          rw [hz]
          exact ⟨hs, H.out.2.setCell (.inl rfl) _⟩
        clear hd1 hC hrd hz H
        go_wp2_with fail
        refine HNU.out.mono ?_
        rintro e w3 ⟨rfl, rfl⟩
        go_wp2
        go_roundg (5 - (0 + 1))
        case measure => omega
        case rel => exact ⟨0 + 1, rfl, by omega, by go_num, HST.out⟩
      ·
        obtain ⟨A1, hs1, hd1⟩ := sub_slice (P := Tryz.prog) Tryz.underlying40 ti_u8 (some ⟨g, off, none⟩) n c 12 20 (by omega) (by omega) (by omega)
        have hs1' : ∀ W : World, (Instr.sliceAt tBytes (.slice (some ⟨g, off, none⟩) n c) (some (.int .i64 12)) (some (.int .i64 20)) none).run Tryz.prog W = _ := fun W => (run_sliceAt_slice W tBytes _ _ _ _ Tryz.underlying40).trans (hs1 W)
        simp only [Int.reduceToNat, Nat.reduceSub] at hs1 hs1'
        have hC : Chg No w wr := HC1.out.then H.out.2 (fun i hi h => by omega)
        have hrd : Rd wr tU8 A1 8 (bys (cut pb 12 20)) := by unfold cut; rw [bys_take, bys_drop]; exact hd1 wr tU8 (bys pb) (by rw [Nat.mul_one]; exact HR.out.chg hC (fun _ _ _ _ h => h)) (by omega)
        obtain ⟨z, hz⟩ : ∃ z, z = num (cut pb 12 20) := ⟨_, rfl⟩
        have HNU := Lib.hid (snumber_calls A1 8 (c - 12) (cut pb 12 20) wr hrd (by omega))
        rw [← hz] at HNU
        have hfz := H.out.1.frozen 1
        have hcell : ∃ u, wr.cell? ⟨w.heap.size + 1, 1, none⟩ = some u := by
          rw [H.out.1.cell 1]
          exact ⟨_, Array.getElem?_eq_getElem (by simp [decA])⟩
        obtain ⟨u, hcell⟩ := hcell
        have HST : Hid (Blk (wr.setCell ⟨w.heap.size + 1, 1, none⟩ (.int .u64 z)) (w.heap.size + 1) tArr5 (decA pb (1 + 1)) ∧ Chg (fun j => j = w.heap.size + 1) w1 (wr.setCell ⟨w.heap.size + 1, 1, none⟩ (.int .u64 z))) := by
          have hs := H.out.1.set_ 1 (.int .u64 z)
          rw [hz, decA_set pb 1 (by omega)] at hs
          rw [hz]
          exact ⟨hs, H.out.2.setCell (.inl rfl) _⟩
        clear hd1 hC hrd hz H
        go_wp2_with fail
        refine HNU.out.mono ?_
        rintro e w3 ⟨rfl, rfl⟩
        go_wp2
        go_roundg (5 - (1 + 1))
        case measure => omega
        case rel => exact ⟨1 + 1, rfl, by omega, by go_num, HST.out⟩
      ·
        obtain ⟨A1, hs1, hd1⟩ := sub_slice (P := Tryz.prog) Tryz.underlying40 ti_u8 (some ⟨g, off, none⟩) n c 20 28 (by omega) (by omega) (by omega)
        have hs1' : ∀ W : World, (Instr.sliceAt tBytes (.slice (some ⟨g, off, none⟩) n c) (some (.int .i64 20)) (some (.int .i64 28)) none).run Tryz.prog W = _ := fun W => (run_sliceAt_slice W tBytes _ _ _ _ Tryz.underlying40).trans (hs1 W)
        simp only [Int.reduceToNat, Nat.reduceSub] at hs1 hs1'
        have hC : Chg No w wr := HC1.out.then H.out.2 (fun i hi h => by omega)
        have hrd : Rd wr tU8 A1 8 (bys (cut pb 20 28)) := by unfold cut; rw [bys_take, bys_drop]; exact hd1 wr tU8 (bys pb) (by rw [Nat.mul_one]; exact HR.out.chg hC (fun _ _ _ _ h => h)) (by omega)
        obtain ⟨z, hz⟩ : ∃ z, z = num (cut pb 20 28) := ⟨_, rfl⟩
        have HNU := Lib.hid (snumber_calls A1 8 (c - 20) (cut pb 20 28) wr hrd (by omega))
        rw [← hz] at HNU
        have hfz := H.out.1.frozen 2
        have hcell : ∃ u, wr.cell? ⟨w.heap.size + 1, 2, none⟩ = some u := by
          rw [H.out.1.cell 2]
          exact ⟨_, Array.getElem?_eq_getElem (by simp [decA])⟩
        obtain ⟨u, hcell⟩ := hcell
        have HST : Hid (Blk (wr.setCell ⟨w.heap.size + 1, 2, none⟩ (.int .u64 z)) (w.heap.size + 1) tArr5 (decA pb (2 + 1)) ∧ Chg (fun j => j = w.heap.size + 1) w1 (wr.setCell ⟨w.heap.size + 1, 2, none⟩ (.int .u64 z))) := by
          have hs := H.out.1.set_ 2 (.int .u64 z)
          rw [hz, decA_set pb 2 (by omega)] at hs
          rw [hz]
          exact ⟨hs, H.out.2.setCell (.inl rfl) _⟩
        clear hd1 hC hrd hz H
        go_wp2_with fail
        refine HNU.out.mono ?_
        rintro e w3 ⟨rfl, rfl⟩
        go_wp2
        go_roundg (5 - (2 + 1))
        case measure => omega
        case rel => exact ⟨2 + 1, rfl, by omega, by go_num, HST.out⟩
      ·
        obtain ⟨A1, hs1, hd1⟩ := sub_slice (P := Tryz.prog) Tryz.underlying40 ti_u8 (some ⟨g, off, none⟩) n c 28 36 (by omega) (by omega) (by omega)
        have hs1' : ∀ W : World, (Instr.sliceAt tBytes (.slice (some ⟨g, off, none⟩) n c) (some (.int .i64 28)) (some (.int .i64 36)) none).run Tryz.prog W = _ := fun W => (run_sliceAt_slice W tBytes _ _ _ _ Tryz.underlying40).trans (hs1 W)
        simp only [Int.reduceToNat, Nat.reduceSub] at hs1 hs1'
        have hC : Chg No w wr := HC1.out.then H.out.2 (fun i hi h => by omega)
        have hrd : Rd wr tU8 A1 8 (bys (cut pb 28 36)) := by unfold cut; rw [bys_take, bys_drop]; exact hd1 wr tU8 (bys pb) (by rw [Nat.mul_one]; exact HR.out.chg hC (fun _ _ _ _ h => h)) (by omega)
        obtain ⟨z, hz⟩ : ∃ z, z = num (cut pb 28 36) := ⟨_, rfl⟩
        have HNU := Lib.hid (snumber_calls A1 8 (c - 28) (cut pb 28 36) wr hrd (by omega))
        rw [← hz] at HNU
        have hfz := H.out.1.frozen 3
        have hcell : ∃ u, wr.cell? ⟨w.heap.size + 1, 3, none⟩ = some u := by
          rw [H.out.1.cell 3]
          exact ⟨_, Array.getElem?_eq_getElem (by simp [decA])⟩
        obtain ⟨u, hcell⟩ := hcell
        have HST : Hid (Blk (wr.setCell ⟨w.heap.size + 1, 3, none⟩ (.int .u64 z)) (w.heap.size + 1) tArr5 (decA pb (3 + 1)) ∧ Chg (fun j => j = w.heap.size + 1) w1 (wr.setCell ⟨w.heap.size + 1, 3, none⟩ (.int .u64 z))) := by
          have hs := H.out.1.set_ 3 (.int .u64 z)
          rw [hz, decA_set pb 3 (by omega)] at hs
          rw [hz]
          exact ⟨hs, H.out.2.setCell (.inl rfl) _⟩
        clear hd1 hC hrd hz H
        go_wp2_with fail
        refine HNU.out.mono ?_
        rintro e w3 ⟨rfl, rfl⟩
        go_wp2
        go_roundg (5 - (3 + 1))
        case measure => omega
        case rel => exact ⟨3 + 1, rfl, by omega, by go_num, HST.out⟩
      ·
        obtain ⟨A1, hs1, hd1⟩ := sub_slice (P := Tryz.prog) Tryz.underlying40 ti_u8 (some ⟨g, off, none⟩) n c 36 44 (by omega) (by omega) (by omega)
        have hs1' : ∀ W : World, (Instr.sliceAt tBytes (.slice (some ⟨g, off, none⟩) n c) (some (.int .i64 36)) (some (.int .i64 44)) none).run Tryz.prog W = _ := fun W => (run_sliceAt_slice W tBytes _ _ _ _ Tryz.underlying40).trans (hs1 W)
        simp only [Int.reduceToNat, Nat.reduceSub] at hs1 hs1'
        have hC : Chg No w wr := HC1.out.then H.out.2 (fun i hi h => by omega)
        have hrd : Rd wr tU8 A1 8 (bys (cut pb 36 44)) := by unfold cut; rw [bys_take, bys_drop]; exact hd1 wr tU8 (bys pb) (by rw [Nat.mul_one]; exact HR.out.chg hC (fun _ _ _ _ h => h)) (by omega)
        obtain ⟨z, hz⟩ : ∃ z, z = num (cut pb 36 44) := ⟨_, rfl⟩
        have HNU := Lib.hid (snumber_calls A1 8 (c - 36) (cut pb 36 44) wr hrd (by omega))
        rw [← hz] at HNU
        have hfz := H.out.1.frozen 4
        have hcell : ∃ u, wr.cell? ⟨w.heap.size + 1, 4, none⟩ = some u := by
          rw [H.out.1.cell 4]
          exact ⟨_, Array.getElem?_eq_getElem (by simp [decA])⟩
        obtain ⟨u, hcell⟩ := hcell
        have HST : Hid (Blk (wr.setCell ⟨w.heap.size + 1, 4, none⟩ (.int .u64 z)) (w.heap.size + 1) tArr5 (decA pb (4 + 1)) ∧ Chg (fun j => j = w.heap.size + 1) w1 (wr.setCell ⟨w.heap.size + 1, 4, none⟩ (.int .u64 z))) := by
          have hs := H.out.1.set_ 4 (.int .u64 z)
          rw [hz, decA_set pb 4 (by omega)] at hs
          rw [hz]
          exact ⟨hs, H.out.2.setCell (.inl rfl) _⟩
        clear hd1 hC hrd hz H
        go_wp2_with fail
        refine HNU.out.mono ?_
        rintro e w3 ⟨rfl, rfl⟩
        go_wp2
        go_roundg (5 - (4 + 1))
        case measure => omega
        case rel => exact ⟨4 + 1, rfl, by omega, by go_num, HST.out⟩
      · obtain ⟨A1, hs1, hd1⟩ := sub_slice (P := Tryz.prog) Tryz.underlying40 ti_u8 (some ⟨g, off, none⟩) n c 48 52 (by omega) (by omega) (by omega)
        have hs1' : ∀ W : World, (Instr.sliceAt tBytes (.slice (some ⟨g, off, none⟩) n c) (some (.int .i64 48)) (some (.int .i64 52)) none).run Tryz.prog W = _ := fun W => (run_sliceAt_slice W tBytes _ _ _ _ Tryz.underlying40).trans (hs1 W)
        simp only [Int.reduceToNat, Nat.reduceSub] at hs1 hs1'
        have hC : Chg No w wr := HC1.out.then H.out.2 (fun i hi h => by omega)
        have hR := HR.out.chg hC (fun _ _ _ _ h => h)
        obtain ⟨z6, hz⟩ : ∃ z, z = num (cut pb 48 52) := ⟨_, rfl⟩
        have hz6 : z6 < 4294967296 := by rw [hz]; exact num_lt4 (cut_len_le pb 48 52)
        have HNU : ∀ W, Hid (Chg No wr W → Calls Tryz.prog 92 #[.slice A1 4 (c - 48)] W fun e w' => e = .returned (.int .u64 z6) ∧ w' = W) := fun W => fun hc => by
          rw [hz]
          refine (snumber_calls A1 4 (c - 48) (cut pb 48 52) W ?_ (by omega)).mono (fun _ _ h => ⟨h.1, h.2.symm⟩)
          unfold cut; rw [bys_take, bys_drop]
          exact hd1 W tU8 (bys pb) (by rw [Nat.mul_one]; exact hR.chg hc (fun _ _ _ _ h => h)) (by omega)
        have ew : IntKind.i64.wrap (z6 : Int) = z6 := IntWalk.i64_in _ (by omega)
        have l0 := H.out.1.cell 0
        have l1 := H.out.1.cell 1
        have l2 := H.out.1.cell 2
        have l3 := H.out.1.cell 3
        have l4 := H.out.1.cell 4
        simp [decA] at l0 l1 l2 l3 l4
        have HBL64 := HBL.out
        obtain ⟨x, hxx⟩ : ∃ x, pb[44]? = some x := ⟨_, List.getElem?_eq_getElem (by omega)⟩
        have hc44 : wr.cell? ⟨g, off + 44, none⟩ = some (.int .u8 x.toNat) := rd_cell2 (by exact hR) (Chg.refl _ _) (by simp only [bys, List.getElem?_map, hxx]; rfl)
        obtain ⟨cl, hcl⟩ : ∃ cl, cl = decide ((x.toNat : Int) = 1) := ⟨_, rfl⟩
        have q1 : decide ((x.toNat : Int) = 1) = cl := hcl.symm
        have q2 : ((x.toNat : Int) == 1) = cl := by rw [hcl]; rfl
        have h44 : (44 : Int) < (n : Int) := by omega
        have HD0 : Hid (Sb.dec0 pb = ⟨num (cut pb 4 12), num (cut pb 12 20), num (cut pb 20 28), num (cut pb 28 36), num (cut pb 36 44), cl, z6⟩) := by
          show _ = _
          unfold Sb.dec0
          rw [hcl, hz, List.getD_eq_getElem?_getD, hxx]
          have : ((x == 1) : Bool) = decide ((x.toNat : Int) = 1) := by
            rw [Bool.eq_iff_iff, beq_iff_eq, decide_eq_true_iff]
            constructor
            · rintro rfl; rfl
            · intro h
              apply UInt8.toNat_inj.1
              have : (1 : UInt8).toNat = 1 := rfl
              omega
          simp only [Option.getD_some, this]
        obtain ⟨y0, hy0⟩ : ∃ y, y = num (cut pb 4 12) := ⟨_, rfl⟩
        obtain ⟨y1, hy1⟩ : ∃ y, y = num (cut pb 12 20) := ⟨_, rfl⟩
        obtain ⟨y2, hy2⟩ : ∃ y, y = num (cut pb 20 28) := ⟨_, rfl⟩
        obtain ⟨y3, hy3⟩ : ∃ y, y = num (cut pb 28 36) := ⟨_, rfl⟩
        obtain ⟨y4, hy4⟩ : ∃ y, y = num (cut pb 36 44) := ⟨_, rfl⟩
        rw [← hy0] at l0 HD0
        rw [← hy1] at l1 HD0
        rw [← hy2] at l2 HD0
        rw [← hy3] at l3 HD0
        rw [← hy4] at l4 HD0
        have HCw := Lib.hid hC
        have HRB2 := Lib.hid (HRB.out.chg H.out.2 (by omega))
        have HRw := Lib.hid hR
        obtain ⟨w2, rfl⟩ : ∃ w2 : World, w2 = wr := ⟨_, rfl⟩
        clear hd1 hC hR hz hy0 hy1 hy2 hy3 hy4 hcl hxx HBL64 H
        go_wp2_with fail
        go_region_held3 (fun w' => w'.cell? ⟨w.heap.size + 1, 0, none⟩ = some (.int .u64 y0) ∧ w'.cell? ⟨w.heap.size + 1, 1, none⟩ = some (.int .u64 y1) ∧ w'.cell? ⟨w.heap.size + 1, 2, none⟩ = some (.int .u64 y2) ∧ w'.cell? ⟨w.heap.size + 1, 3, none⟩ = some (.int .u64 y3) ∧ w'.cell? ⟨w.heap.size + 1, 4, none⟩ = some (.int .u64 y4) ∧ w'.cell? ⟨g, off + 44, none⟩ = some (.int .u8 x.toNat)) (first | go_keep)
          ((go_at_call 92
            refine ((HNU _).out (by (repeat (first | (with_reducible exact Chg.refl _ _) | (with_reducible assumption) | (with_reducible refine Chg.drewN ?_ _) | (with_reducible refine Chg.drew ?_) | (with_reducible refine Chg.alloc ?_ _) | (with_reducible refine Chg.setCell ?_ (by first | (left; simp [DevH.foot]; done) | (right; simp; done) | (right; simp; omega)) _))))).mono ?_
            rintro e w3 ⟨rfl, rfl⟩))
        all_goals
          go_wp2_with fail
          obtain ⟨w4, hw4⟩ : ∃ w4 : World, w4 = (w2.alloc (.cells #[.int .u64 y0, .int .u64 y1, .int .u64 y2, .int .u64 y3, .int .u64 y4, .bool cl, .int .i64 z6] tSb)).drew := ⟨_, rfl⟩
          have HB4 : Hid (Blk w4 w2.heap.size tSb #[.int .u64 y0, .int .u64 y1, .int .u64 y2, .int .u64 y3, .int .u64 y4, .bool cl, .int .i64 z6]) := by show Blk _ _ _ _; rw [hw4]; exact (Blk.new w2 _ _).drew
          have HC4 : Hid (Chg No w2 w4) := by show Chg No w2 w4; rw [hw4]; (repeat (first | (with_reducible exact Chg.refl _ _) | (with_reducible assumption) | (with_reducible refine Chg.drewN ?_ _) | (with_reducible refine Chg.drew ?_) | (with_reducible refine Chg.alloc ?_ _) | (with_reducible refine Chg.setCell ?_ (by first | (left; simp [DevH.foot]; done) | (right; simp; done) | (right; simp; omega)) _)))
          change Code.wp _ _ _ _ (World.drew _)
          rw [← hw4]
          clear hw4
          have HRB4 := Lib.hid (HRB2.out.chg HC4.out (fun h => h))
          obtain ⟨A2, hs2, hd2⟩ := sub_slice_h (P := Tryz.prog) Tryz.underlying40 ti_u8 (some ⟨g, off, none⟩) n c 64 (by omega)
          have hs2' : ∀ W : World, (Instr.sliceAt tBytes (.slice (some ⟨g, off, none⟩) n c) none (some (.int .i64 64)) none).run Tryz.prog W = _ := fun W => (run_sliceAt_slice W tBytes _ _ _ _ Tryz.underlying40).trans (hs2 W)
          have HR2 : ∀ W, Hid (Chg No w4 W → Rd W tU8 A2 64 (bys (pb.take 64))) := fun W => fun hc => by rw [bys_take]; exact hd2 W tU8 (bys pb) (by rw [Nat.mul_one]; exact HRw.out.chg (HC4.out.trans hc) (fun _ _ _ _ h => h)) (by omega)
          have HEN : ∀ W, Hid (Calls Tryz.prog 89 #[.agg #[.int .u64 y0, .int .u64 y1, .int .u64 y2, .int .u64 y3, .int .u64 y4, .bool cl, .int .i64 z6]] W fun e w' => ∃ gE, e = .returned (.slice (some ⟨gE, 0, none⟩) 64 64) ∧ Blk w' gE tU8 (bys (Sb.dec0 pb).enc).toArray ∧ W.heap.size ≤ gE ∧ Chg No W w') := fun W => by
            have := encode_calls (Sb.dec0 pb) (Sb.dec0_ok pb) W
            rw [HD0.out] at this ⊢
            exact this
          have HEQ : ∀ (W : World) (gE : Nat), Hid (Chg No w4 W → Blk W gE tU8 (bys (Sb.dec0 pb).enc).toArray → Calls Tryz.prog 93 #[.slice (some ⟨gE, 0, none⟩) 64 64, .slice A2 64 c] W fun e w' => e = .returned (.bool (decide ((Sb.dec0 pb).enc = pb.take 64))) ∧ Chg No W w') := fun W gE => fun hc hb =>
            eqb_calls (some ⟨gE, 0, none⟩) A2 64 64 64 c _ _ W (by
              have := Rd.ofBlk (k := 64) hb (by simp [bys_length, Sb.enc_len])
              have e : (bys (Sb.dec0 pb).enc).toArray.toList.take 64 = bys (Sb.dec0 pb).enc := List.take_of_length_le (by simp [bys_length, Sb.enc_len])
              rwa [e] at this) ((HR2 W).out hc) (by omega) (by omega)
          have k0 := HB4.out.cell 0
          have k1 := HB4.out.cell 1
          have k2 := HB4.out.cell 2
          have k3 := HB4.out.cell 3
          have k4 := HB4.out.cell 4
          have k5 := HB4.out.cell 5
          have k6 := HB4.out.cell 6
          simp at k0 k1 k2 k3 k4 k5 k6
          clear hd2 l0 l1 l2 l3 l4 hc44 q1 q2 hs1 hs1' ew HNU
          by_cases hq : (Sb.dec0 pb).enc = pb.take 64
          · have HDC : Hid (Sb.dec pb = some (Sb.dec0 pb)) := by show _ = _; unfold Sb.dec; rw [if_pos ⟨by have := HBL.out; omega, hq⟩]
            have hqt : decide ((Sb.dec0 pb).enc = pb.take 64) = true := decide_eq_true hq
            simp only [hqt] at HEQ
            clear hq hqt
            go_region_held3 (fun w' => w'.cell? ⟨w2.heap.size, 0, none⟩ = some (.int .u64 y0) ∧ w'.cell? ⟨w2.heap.size, 1, none⟩ = some (.int .u64 y1) ∧ w'.cell? ⟨w2.heap.size, 2, none⟩ = some (.int .u64 y2) ∧ w'.cell? ⟨w2.heap.size, 3, none⟩ = some (.int .u64 y3) ∧ w'.cell? ⟨w2.heap.size, 4, none⟩ = some (.int .u64 y4) ∧ w'.cell? ⟨w2.heap.size, 5, none⟩ = some (.bool cl) ∧ w'.cell? ⟨w2.heap.size, 6, none⟩ = some (.int .i64 z6)) (first | go_keep)
              ((first
                | (go_at_call 89
                   refine (HEN _).out.mono ?_
                   rintro e w5 ⟨gE, rfl, hbE, hgE, hcE⟩
                   have HBE := Lib.hid hbE
                   have HC5 : Hid (Chg No w4 w5) := (by (repeat (first | (with_reducible exact Chg.refl _ _) | (with_reducible assumption) | (with_reducible refine Chg.drewN ?_ _) | (with_reducible refine Chg.drew ?_) | (with_reducible refine Chg.alloc ?_ _) | (with_reducible refine Chg.setCell ?_ (by first | (left; simp [DevH.foot]; done) | (right; simp; done) | (right; simp; omega)) _))) : Chg No w4 _).trans hcE
                   have HB5 := Lib.hid (HB4.out.chg HC5.out (fun h => h))
                   have m0 := HB5.out.cell 0
                   have m1 := HB5.out.cell 1
                   have m2 := HB5.out.cell 2
                   have m3 := HB5.out.cell 3
                   have m4 := HB5.out.cell 4
                   have m5 := HB5.out.cell 5
                   have m6 := HB5.out.cell 6
                   simp at m0 m1 m2 m3 m4 m5 m6
                   clear hbE hgE hcE)
                | (go_at_call 93
                   refine ((HEQ _ _).out HC5.out HBE.out).mono ?_
                   rintro e w6 ⟨rfl, hc6⟩
                   have HC6 : Hid (Chg No w4 w6) := HC5.out.trans hc6
                   have HB6 := Lib.hid (HB4.out.chg HC6.out (fun h => h))
                   have n0 := HB6.out.cell 0
                   have n1 := HB6.out.cell 1
                   have n2 := HB6.out.cell 2
                   have n3 := HB6.out.cell 3
                   have n4 := HB6.out.cell 4
                   have n5 := HB6.out.cell 5
                   have n6 := HB6.out.cell 6
                   simp at n0 n1 n2 n3 n4 n5 n6
                   have HRB6 := Lib.hid (HRB4.out.chg HC6.out (fun h => h))
                   have r0 := HRB6.out.cell 0
                   have r1 := HRB6.out.cell 1
                   have r2 := HRB6.out.cell 2
                   have r3 := HRB6.out.cell 3
                   have r4 := HRB6.out.cell 4
                   have r5 := HRB6.out.cell 5
                   have r6 := HRB6.out.cell 6
                   have f0 := HRB6.out.frozen 0
                   have f1 := HRB6.out.frozen 1
                   have f2 := HRB6.out.frozen 2
                   have f3 := HRB6.out.frozen 3
                   have f4 := HRB6.out.frozen 4
                   have f5 := HRB6.out.frozen 5
                   have f6 := HRB6.out.frozen 6
                   simp at r0 r1 r2 r3 r4 r5 r6
                   clear hc6)))
            go_wp2
            have hfin : Chg No w w6 := HCw.out.trans (HC4.out.trans HC6.out)
            refine bodyPost_ret (v := .tuple #[.agg #[.int .u64 y0, .int .u64 y1, .int .u64 y2, .int .u64 y3, .int .u64 y4, .bool cl, .int .i64 z6], .int .i64 0]) (by simp [results, Tryz.results63, go_sem, r0, r1, r2, r3, r4, r5, r6]) rfl ⟨?_, by (repeat (first | (with_reducible exact Chg.refl _ _) | (with_reducible assumption) | (with_reducible refine Chg.drewN ?_ _) | (with_reducible refine Chg.drew ?_) | (with_reducible refine Chg.alloc ?_ _) | (with_reducible refine Chg.setCell ?_ (by first | (left; simp [DevH.foot]; done) | (right; simp; done) | (right; simp; omega)) _)))⟩
            rw [HDC.out]
            simp only [sbD, sbE, Option.getD_some]
            rw [HD0.out]
            rfl
          · have HDC : Hid (Sb.dec pb = none) := by show _ = _; unfold Sb.dec; rw [if_neg (fun h => hq h.2)]
            have hqt : decide ((Sb.dec0 pb).enc = pb.take 64) = false := decide_eq_false hq
            simp only [hqt] at HEQ
            clear hq hqt
            go_region_held3 (fun w' => w'.cell? ⟨w2.heap.size, 0, none⟩ = some (.int .u64 y0) ∧ w'.cell? ⟨w2.heap.size, 1, none⟩ = some (.int .u64 y1) ∧ w'.cell? ⟨w2.heap.size, 2, none⟩ = some (.int .u64 y2) ∧ w'.cell? ⟨w2.heap.size, 3, none⟩ = some (.int .u64 y3) ∧ w'.cell? ⟨w2.heap.size, 4, none⟩ = some (.int .u64 y4) ∧ w'.cell? ⟨w2.heap.size, 5, none⟩ = some (.bool cl) ∧ w'.cell? ⟨w2.heap.size, 6, none⟩ = some (.int .i64 z6)) (first | go_keep)
              ((first
                | (go_at_call 89
                   refine (HEN _).out.mono ?_
                   rintro e w5 ⟨gE, rfl, hbE, hgE, hcE⟩
                   have HBE := Lib.hid hbE
                   have HC5 : Hid (Chg No w4 w5) := (by (repeat (first | (with_reducible exact Chg.refl _ _) | (with_reducible assumption) | (with_reducible refine Chg.drewN ?_ _) | (with_reducible refine Chg.drew ?_) | (with_reducible refine Chg.alloc ?_ _) | (with_reducible refine Chg.setCell ?_ (by first | (left; simp [DevH.foot]; done) | (right; simp; done) | (right; simp; omega)) _))) : Chg No w4 _).trans hcE
                   have HB5 := Lib.hid (HB4.out.chg HC5.out (fun h => h))
                   have m0 := HB5.out.cell 0
                   have m1 := HB5.out.cell 1
                   have m2 := HB5.out.cell 2
                   have m3 := HB5.out.cell 3
                   have m4 := HB5.out.cell 4
                   have m5 := HB5.out.cell 5
                   have m6 := HB5.out.cell 6
                   simp at m0 m1 m2 m3 m4 m5 m6
                   clear hbE hgE hcE)
                | (go_at_call 93
                   refine ((HEQ _ _).out HC5.out HBE.out).mono ?_
                   rintro e w6 ⟨rfl, hc6⟩
                   have HC6 : Hid (Chg No w4 w6) := HC5.out.trans hc6
                   have HB6 := Lib.hid (HB4.out.chg HC6.out (fun h => h))
                   have n0 := HB6.out.cell 0
                   have n1 := HB6.out.cell 1
                   have n2 := HB6.out.cell 2
                   have n3 := HB6.out.cell 3
                   have n4 := HB6.out.cell 4
                   have n5 := HB6.out.cell 5
                   have n6 := HB6.out.cell 6
                   simp at n0 n1 n2 n3 n4 n5 n6
                   have HRB6 := Lib.hid (HRB4.out.chg HC6.out (fun h => h))
                   have r0 := HRB6.out.cell 0
                   have r1 := HRB6.out.cell 1
                   have r2 := HRB6.out.cell 2
                   have r3 := HRB6.out.cell 3
                   have r4 := HRB6.out.cell 4
                   have r5 := HRB6.out.cell 5
                   have r6 := HRB6.out.cell 6
                   have f0 := HRB6.out.frozen 0
                   have f1 := HRB6.out.frozen 1
                   have f2 := HRB6.out.frozen 2
                   have f3 := HRB6.out.frozen 3
                   have f4 := HRB6.out.frozen 4
                   have f5 := HRB6.out.frozen 5
                   have f6 := HRB6.out.frozen 6
                   simp at r0 r1 r2 r3 r4 r5 r6
                   clear hc6)))
            go_wp2
            have hfin : Chg No w w6 := HCw.out.trans (HC4.out.trans HC6.out)
            refine bodyPost_ret (v := .tuple #[sbV Sb.zero, .int .i64 3]) (by simp [results, Tryz.results63, go_sem, sbV, sbc, Sb.zero, r0, r1, r2, r3, r4, r5, r6]) rfl ⟨?_, by (repeat (first | (with_reducible exact Chg.refl _ _) | (with_reducible assumption) | (with_reducible refine Chg.drewN ?_ _) | (with_reducible refine Chg.drew ?_) | (with_reducible refine Chg.alloc ?_ _) | (with_reducible refine Chg.setCell ?_ (by first | (left; simp [DevH.foot]; done) | (right; simp; done) | (right; simp; omega)) _)))⟩
            rw [HDC.out]
            rfl
end Go.Proofs.YtplpbbdakihnfaaGreat
end

section
namespace Go.Proofs.YtplpbbdakihnfaaGreat
open Go.RowKit
def hprime : Nat := 1099511628211
def hbegin : Nat := 14695981039346656037
def hstep (h : Nat) (c : UInt8) : Nat := ((h ^^^ c.toNat) * hprime) % 18446744073709551616
def hfold (h : Nat) (s : List UInt8) : Nat := s.foldl hstep h
def khash (s : List UInt8) : Nat := hfold hbegin s
def ksecond (s : List UInt8) : Nat := hfold (hfold hprime [0]) s
theorem hstep_lt (h : Nat) (c : UInt8) : hstep h c < 18446744073709551616 := Nat.mod_lt _ (by decide)
theorem hfold_lt {h : Nat} (hh : h < 18446744073709551616) (s : List UInt8) : hfold h s < 18446744073709551616 := by
  induction s generalizing h with
  | nil => exact hh
  | cons c r ih => exact ih (hstep_lt h c)
theorem khash_lt (s : List UInt8) : khash s < 18446744073709551616 := hfold_lt (by decide) s
theorem ksecond_lt (s : List UInt8) : ksecond s < 18446744073709551616 := hfold_lt (hfold_lt (by decide) _) s
theorem xor_lt64 {a b : Nat} (ha : a < 18446744073709551616) (hb : b < 18446744073709551616) : a ^^^ b < 18446744073709551616 := Nat.xor_lt_two_pow (n := 64) ha hb
theorem bits_xor64 (a b : Nat) (ha : a < 18446744073709551616) (hb : b < 18446744073709551616) : bits .xor .u64 (a : Int) (b : Int) = ((a ^^^ b : Nat) : Int) := by
  have ha' : a % 2 ^ IntKind.u64.bits = a := Nat.mod_eq_of_lt ha
  have hb' : b % 2 ^ IntKind.u64.bits = b := Nat.mod_eq_of_lt hb
  simp only [bits, BitVec.ofInt_natCast, BitVec.toNat_xor, BitVec.toNat_ofNat, ha', hb']
  exact wraps_u64 _ (by omega) (by have := xor_lt64 ha hb; show ((a ^^^ b : Nat) : Int) < _; omega)
theorem bits_or1 (a : Nat) (ha : a < 18446744073709551616) : bits .or .u64 (a : Int) 1 = ((a ||| 1 : Nat) : Int) :=
  (bits_nat .u64 64 (by decide) (fun n h1 h2 => wraps_u64 n h1 h2) a 1 (by omega) (by decide)).2
theorem or1_lt {a : Nat} (ha : a < 18446744073709551616) : a ||| 1 < 18446744073709551616 := Nat.or_lt_two_pow (n := 64) ha (by decide)
def placesFrom (n h step : Nat) : Nat → List Nat
  | 0 => []
  | k + 1 => h % n :: placesFrom n ((h + step) % 18446744073709551616) step k
def places (n turns : Nat) (key : List UInt8) : List Nat := placesFrom n (khash key) (ksecond key ||| 1) turns
def fadd (bs : List Bool) (ps : List Nat) : List Bool := ps.foldl (fun l i => l.set i true) bs
def fmay (bs : List Bool) (ps : List Nat) : Bool := ps.all fun i => bs.getD i false
theorem placesFrom_length (n h step k : Nat) : (placesFrom n h step k).length = k := by
  induction k generalizing h with
  | zero => rfl
  | succ k ih => simp [placesFrom, ih]
theorem placesFrom_lt {n : Nat} (hn : 0 < n) (h step k : Nat) : ∀ i ∈ placesFrom n h step k, i < n := by
  induction k generalizing h with
  | zero => intro i hi; cases hi
  | succ k ih =>
    intro i hi
    rcases List.mem_cons.1 hi with rfl | hi
    · exact Nat.mod_lt _ hn
    · exact ih _ i hi
theorem places_lt {n : Nat} (hn : 0 < n) (turns : Nat) (key : List UInt8) : ∀ i ∈ places n turns key, i < n := placesFrom_lt hn _ _ _
theorem places_length (n turns : Nat) (key : List UInt8) : (places n turns key).length = turns := placesFrom_length _ _ _ _
theorem fadd_length (bs : List Bool) (ps : List Nat) : (fadd bs ps).length = bs.length := by
  induction ps generalizing bs with
  | nil => rfl
  | cons p r ih => simp only [fadd, List.foldl_cons]; rw [show List.foldl (fun l i => l.set i true) (bs.set p true) r = fadd (bs.set p true) r from rfl, ih]; simp
theorem fadd_keeps (bs : List Bool) (ps : List Nat) (i : Nat) (h : bs.getD i false = true) : (fadd bs ps).getD i false = true := by
  induction ps generalizing bs with
  | nil => exact h
  | cons p r ih =>
    simp only [fadd, List.foldl_cons]
    refine ih (bs.set p true) ?_
    simp only [List.getD_eq_getElem?_getD, List.getElem?_set] at h ⊢
    split
    · rename_i e
      subst e
      split
      · rfl
      · rename_i hlt
        rw [List.getElem?_eq_none (by omega)] at h
        exact h
    · exact h
theorem fadd_has (bs : List Bool) (ps : List Nat) (i : Nat) (hi : i ∈ ps) (hl : i < bs.length) : (fadd bs ps).getD i false = true := by
  induction ps generalizing bs with
  | nil => cases hi
  | cons p r ih =>
    simp only [fadd, List.foldl_cons]
    rcases List.mem_cons.1 hi with rfl | hi
    · refine fadd_keeps (bs.set i true) r i ?_
      simp [List.getD_eq_getElem?_getD, hl]
    · exact ih (bs.set p true) hi (by simpa using hl)
theorem fmay_fadd (bs : List Bool) (ps : List Nat) (h : ∀ i ∈ ps, i < bs.length) : fmay (fadd bs ps) ps = true := by
  simp only [fmay, List.all_eq_true]
  exact fun i hi => fadd_has bs ps i hi (h i hi)
theorem fmay_keeps (bs : List Bool) (ps qs : List Nat) (h : fmay bs qs = true) : fmay (fadd bs ps) qs = true := by
  simp only [fmay, List.all_eq_true] at h ⊢
  exact fun i hi => fadd_keeps bs ps i (h i hi)
end Go.Proofs.YtplpbbdakihnfaaGreat
end

section
namespace Go.Proofs.YtplpbbdakihnfaaGreat
open Go.RowKit
theorem hfold_snoc (h : Nat) (l : List UInt8) (c : UInt8) : hfold h (l ++ [c]) = hstep (hfold h l) c := by
  unfold hfold
  rw [List.foldl_append, List.foldl_cons, List.foldl_nil]
theorem hstep_wrap (z : Nat) (x : UInt8) : IntKind.u64.wrap (((z ^^^ x.toNat : Nat) : Int) * 1099511628211) = ((hstep z x : Nat) : Int) := by
  rw [IntKind.wrap_u64]
  unfold hstep hprime
  omega
theorem fold_calls (h : Nat) (s : ByteArray) (w : World) (hh : h < 18446744073709551616) (hs : s.size ≤ 140737488351232) :
    Calls Tryz.prog 79 #[.int .u64 h, .string s] w fun e w' => e = .returned (.int .u64 (hfold h s.data.toList)) ∧ w = w' := by
  go_enter Tryz.func79, Tryz.ntmps79
  go_wp2
  go_loopg [0, 5] s.size (fun k v i wr => ∃ q : Nat, k = s.size - q ∧ q ≤ s.size ∧ w = wr ∧ i = .int .i64 q ∧ v = .int .u64 ((hfold h (s.data.toList.take q) : Nat) : Int))
  case atStart => exact ⟨0, rfl, Nat.zero_le _, rfl, rfl, rfl⟩
  case round =>
    obtain ⟨j, rfl, hj, rfl, rfl, rfl⟩ := hrel
    by_cases h0 : j < s.size
    · obtain ⟨z, hz⟩ : ∃ z, z = hfold h (s.data.toList.take j) := ⟨_, rfl⟩
      rw [← hz]
      have hzl : z < 18446744073709551616 := by rw [hz]; exact hfold_lt hh _
      obtain ⟨x, hx⟩ : ∃ x, x = s[j] := ⟨_, rfl⟩
      have hx8 := x.toNat_lt
      have HV : Hid (hfold h (s.data.toList.take (j + 1)) = hstep z x) := by
        show _ = _
        have e : s.data.toList.take (j + 1) = s.data.toList.take j ++ [s[j]] := by
          rw [List.take_succ_eq_append_getElem (by rw [Array.length_toList]; exact h0)]; rfl
        rw [e, hfold_snoc, ← hz, ← hx]
      have HX := Lib.hid (bits_xor64 z x.toNat hzl (by omega))
      have HXX := Lib.hid hx
      clear hz
      go_wp2
      go_roundg (s.size - (j + 1))
      case measure => omega
      case rel => 
        refine ⟨j + 1, rfl, by omega, rfl, rfl, ?_⟩
        rw [← HXX.out, wraps_u64 (x.toNat : Int) (by omega) (by omega), HX.out, HV.out]
        exact congrArg _ (hstep_wrap z x)
    · have e : j = s.size := by omega
      have HT : Hid (s.data.toList.take j = s.data.toList) := List.take_of_length_le (by rw [Array.length_toList, e]; exact Nat.le_refl _)
      rw [HT.out]
      clear e
      go_wp2
      go_ret
      exact ⟨rfl, rfl⟩
theorem hash_calls (s : ByteArray) (w : World) (hs : s.size ≤ 140737488351232) :
    Calls Tryz.prog 52 #[.string s] w fun e w' => e = .returned (.int .u64 (khash s.data.toList)) ∧ w = w' := by
  have H := Lib.hid (fold_calls hbegin s w (by decide) hs)
  unfold hbegin at H
  go_enter Tryz.func52, Tryz.ntmps52
  go_wp2_with fail
  refine H.out.mono ?_
  rintro e w1 ⟨rfl, rfl⟩
  go_wp2
  go_ret
  exact ⟨rfl, rfl⟩
theorem second_calls (s : ByteArray) (w : World) (hs : s.size ≤ 140737488351232) :
    Calls Tryz.prog 117 #[.string s] w fun e w' => e = .returned (.int .u64 (ksecond s.data.toList)) ∧ w = w' := by
  have H1 := Lib.hid (fold_calls hprime ⟨#[0]⟩ w (by decide) (by decide))
  have H2 := Lib.hid (fold_calls (hfold hprime [0]) s w (hfold_lt (by decide) _) hs)
  unfold hprime at H1
  go_enter Tryz.func117, Tryz.ntmps117
  go_wp2_with fail
  refine H1.out.mono ?_
  rintro e w1 ⟨rfl, rfl⟩
  go_wp2_with fail
  refine H2.out.mono ?_
  rintro e w1 ⟨rfl, rfl⟩
  go_wp2
  go_ret
  exact ⟨rfl, rfl⟩
end Go.Proofs.YtplpbbdakihnfaaGreat
end

section
namespace Go.Proofs.YtplpbbdakihnfaaGreat
open Go.RowKit
abbrev tFilter : TypeId := 164
abbrev tBool : TypeId := 4
abbrev tInt : TypeId := 3
def bls (l : List Bool) : List Value := l.map (fun b => Value.bool b)
def nts (l : List Nat) : List Value := l.map fun (n : Nat) => Value.int .i64 (n : Int)
theorem nts_append (a b : List Nat) : nts (a ++ b) = nts a ++ nts b := by simp [nts]
theorem nts_one {l : List Nat} : ∀ u ∈ nts l, u.oneCell' = true := by
  intro u hu
  simp only [nts, List.mem_map] at hu
  obtain ⟨x, _, rfl⟩ := hu
  rfl
theorem ti_intB : TI Tryz.prog tInt (.int .i64 0) 1 8 := (by kernel_rfl : (Tryz.prog.info? tInt).map (fun i => (i.zero, i.size, i.bytes)) = some (some (.int .i64 0), 1, 8))
theorem ti_bool : TI Tryz.prog tBool (.bool false) 1 1 := (by kernel_rfl : (Tryz.prog.info? tBool).map (fun i => (i.zero, i.size, i.bytes)) = some (some (.bool false), 1, 1))
structure Flt (w : World) (p q : Nat) (bs : List Bool) : Prop where
  head : Blk w p tFilter #[.slice (some ⟨q, 0, none⟩) 256 256, .int .i64 3]
  bits : Blk w q tBool (bls bs).toArray
  len : bs.length = 256
section
variable {S : Nat → Prop} {w w' : World} {p q : Nat} {bs : List Bool}
theorem Flt.chg (h : Flt w p q bs) (hc : Chg S w w') (h1 : ¬ S p) (h2 : ¬ S q) : Flt w' p q bs := ⟨h.head.chg hc h1, h.bits.chg hc h2, h.len⟩
theorem Flt.ne_ (h : Flt w p q bs) : p ≠ q := h.head.ne_ h.bits (by decide)
end
set_option maxRecDepth 100000 in
theorem bnew_calls (w : World) :
    Calls Tryz.prog 66 #[.int .i64 256, .int .i64 3] w fun e w' => ∃ p q, e = .returned (.tuple #[.pointer (some ⟨p, 0, none⟩), .int .i64 0]) ∧ w.heap.size ≤ p ∧ w.heap.size ≤ q ∧ Flt w' p q (List.replicate 256 false) ∧ Chg No w w' := by
  have HM : (Instr.makeSlice 162 (.int .i64 256) (.int .i64 256)).run Tryz.prog w = .ok (.slice (some ⟨w.heap.size, 0, none⟩) 256 256) (w.alloc (.cells (mk 256 (.bool false)) tBool)) := run_mk (P := Tryz.prog) w Tryz.underlying162 ti_bool rfl 256 (by decide) (by decide)
  go_enter Tryz.func66, Tryz.ntmps66
  go_wp2
  go_ret2
  refine ⟨w.heap.size + 1, w.heap.size, rfl, by omega, Nat.le_refl _, ?_, ((Chg.refl _ _).alloc _).alloc _⟩
  have h1 := Blk.new (w.alloc (.cells (mk 256 (.bool false)) tBool)) tFilter #[.slice (some ⟨w.heap.size, 0, none⟩) 256 256, .int .i64 3]
  rw [World.size_alloc] at h1
  refine ⟨h1, ?_, List.length_replicate⟩
  have h2 := (Blk.new w tBool (mk 256 (.bool false))).alloc (.cells #[.slice (some ⟨w.heap.size, 0, none⟩) 256 256, .int .i64 3] tFilter)
  have e : (bls (List.replicate 256 false)).toArray = mk 256 (.bool false) := by
    unfold bls mk
    rw [List.map_replicate]
  rw [e]
  exact h2
set_option maxRecDepth 100000 in
theorem places_calls (p q : Nat) (bs : List Bool) (s : ByteArray) (w : World) (hf : Flt w p q bs) (hs : s.size ≤ 140737488351232) :
    Calls Tryz.prog 96 #[.pointer (some ⟨p, 0, none⟩), .string s] w fun e w' => ∃ v, e = .returned v ∧ w'.ownsRow w.heap.size tInt 1 v 3 (nts (places 256 3 s.data.toList)) ∧ Chg No w w' := by
  have H1 := Lib.hid (hash_calls s w hs)
  have H2 := Lib.hid (second_calls s w hs)
  obtain ⟨h, hh⟩ : ∃ h, h = khash s.data.toList := ⟨_, rfl⟩
  obtain ⟨t, ht⟩ : ∃ t, t = ksecond s.data.toList := ⟨_, rfl⟩
  have hhl : h < 18446744073709551616 := by rw [hh]; exact khash_lt _
  have htl : t < 18446744073709551616 := by rw [ht]; exact ksecond_lt _
  have hor := bits_or1 t htl
  obtain ⟨u, hu⟩ : ∃ u, u = t ||| 1 := ⟨_, rfl⟩
  have hul : u < 18446744073709551616 := by rw [hu]; exact or1_lt htl
  rw [← hu] at hor
  have HPL : Hid (places 256 3 s.data.toList = placesFrom 256 h u 3) := by
    show _ = _
    rw [hu, hh, ht]; rfl
  rw [← hh] at H1
  rw [← ht] at H2
  have HF := Lib.hid hf
  have c0 := hf.head.cell 0
  have c1 := hf.head.cell 1
  simp at c0 c1
  clear hh ht hu hf
  go_enter Tryz.func96, Tryz.ntmps96
  go_wp2_with fail
  refine H1.out.mono ?_
  rintro e w1 ⟨rfl, rfl⟩
  go_wp2_with fail
  refine H2.out.mono ?_
  rintro e w1 ⟨rfl, rfl⟩
  go_wp2
  go_loopg [5, 6, 17] 3 (fun g v5 v6 v17 wr => ∃ (k z : Nat) (acc : List Nat), v17 = .int .i64 k ∧ v6 = .int .u64 z ∧ k ≤ 3 ∧ g = 3 - k ∧ z < 18446744073709551616 ∧
    Hid (placesFrom 256 h u 3 = acc ++ placesFrom 256 z u (3 - k) ∧ acc.length = k ∧ wr.ownsRow w.heap.size tInt 1 v5 acc.length (nts acc) ∧ Chg No w wr))
  case atStart => exact ⟨0, h, [], rfl, rfl, by omega, rfl, hhl, ⟨rfl, rfl, by simpa [nts] using World.ownsRow_nil w w.heap.size tInt 1, Chg.refl _ _⟩⟩
  case round =>
    obtain ⟨k, z, acc, rfl, rfl, hk, rfl, hz, H⟩ := hrel
    have hf1 := HF.out.chg H.out.2.2.2 (fun h => h) (fun h => h)
    have c0 := hf1.head.cell 0
    have c1 := hf1.head.cell 1
    simp at c0 c1
    have HA := Lib.hid H.out.1
    have hal := H.out.2.1
    have HN := Lib.hid H.out.2.1
    have HO := Lib.hid H.out.2.2.1
    have HC := Lib.hid H.out.2.2.2
    have hbase := H.out.2.2.2.size
    clear hf1 H
    by_cases h0 : k < 3
    · have hz256 : z % 256 < 256 := Nat.mod_lt _ (by decide)
      go_wp2_with (first
        | (at_builtin; refine wpList_app _ rfl (.tmp 19) (.tmp 29) 66 rfl tInt Tryz.underlying66 ti_intB rfl (by omega) w.heap.size _ acc.length (nts acc) rfl (HO.out.alloc _) tInt _ 1 1 (nts [z % 256]) rfl (Rd.ofBlk (k := 1) (Blk.new _ _ _) (by simp)) nts_one (by simp only [maxLen]; omega) (by omega) (by simp; omega) ?_; intro v2 w2 ho2 hg2 hb2; have HO2 := Lib.hid ho2; have HG2 := Lib.hid hg2; clear ho2 hg2 hb2))
      go_roundg (3 - (k + 1))
      case measure => omega
      case rel =>
        refine ⟨k + 1, (z + u) % 18446744073709551616, acc ++ [z % 256], rfl, ?_, by omega, rfl, Nat.mod_lt _ (by decide), ?_, ?_, ?_, ?_⟩
        · rw [IntKind.wrap_u64]
          congr 1
        · rw [HA.out, show 3 - k = (3 - (k + 1)) + 1 by omega, placesFrom]; simp
        · simp; omega
        · have := HO2.out
          rw [nts_append]
          simpa using this
        · exact ((HC.out.alloc _)).grown HG2.out (fun k' hk' => .inr (own_new HO.out k' hk'))
    · have e3 : k = 3 := by omega
      subst e3
      go_wp2
      go_ret
      refine ⟨_, rfl, ?_, HC.out⟩
      rw [HPL.out, HA.out]
      simp only [placesFrom, Nat.sub_self, List.append_nil]
      have := HO.out
      rw [HN.out] at this
      exact this
theorem bls_set (bs : List Bool) (i : Nat) (b : Bool) : (bls (bs.set i b)) = (bls bs).set i (.bool b) := by simp [bls, List.map_set]
theorem bls_get (bs : List Bool) (i : Nat) (h : i < bs.length) : (bls bs)[i]? = some (.bool (bs.getD i false)) := by
  simp [bls, h, List.getD_eq_getElem?_getD]
theorem nts_get (l : List Nat) (i : Nat) (h : i < l.length) : (nts l)[i]? = some (.int .i64 (l[i] : Nat)) := by
  simp [nts, h]
set_option maxRecDepth 100000 in
theorem badd_calls (p q : Nat) (bs : List Bool) (s : ByteArray) (w : World) (hf : Flt w p q bs) (hs : s.size ≤ 140737488351232) :
    Calls Tryz.prog 68 #[.pointer (some ⟨p, 0, none⟩), .string s] w fun e w' => e = .returned (.tuple #[]) ∧ Flt w' p q (fadd bs (places 256 3 s.data.toList)) ∧ Chg (fun i => i = q) w w' := by
  have H := Lib.hid (places_calls p q bs s w hf hs)
  have HF := Lib.hid hf
  obtain ⟨l, hl⟩ : ∃ l, l = places 256 3 s.data.toList := ⟨_, rfl⟩
  have hll : l.length = 3 := by rw [hl]; exact places_length _ _ _
  have hlt : ∀ i ∈ l, i < 256 := by rw [hl]; exact places_lt (by decide) _ _
  rw [← hl] at H
  rw [← hl]
  have HLT := Lib.hid hlt
  have HQ := hf.head.lt
  have HQ2 := hf.bits.lt
  have hpq := hf.ne_
  clear hl hf hlt
  go_enter Tryz.func68, Tryz.ntmps68
  go_wp2_with fail
  refine H.out.mono ?_
  rintro e w1 ⟨v, rfl, ho1, hc1⟩
  obtain ⟨A1, c1, rfl, hc1n, hrd1⟩ := own_slice ho1
  have HR := Lib.hid hrd1
  have HF1 := Lib.hid (HF.out.chg hc1 (fun h => h) (fun h => h))
  have HC1 := Lib.hid hc1
  clear hc1 ho1 hrd1
  go_wp2
  go_loopg [10] 3 (fun g v10 wr => ∃ k : Nat, v10 = .int .i64 k ∧ k ≤ 3 ∧ g = 3 - k ∧
    Hid (Flt wr p q (fadd bs (l.take k)) ∧ Chg (fun i => i = q) w1 wr))
  case atStart => exact ⟨0, rfl, by omega, rfl, ⟨by simpa [fadd] using HF1.out, Chg.refl _ _⟩⟩
  case round =>
    obtain ⟨k, rfl, hk, rfl, H⟩ := hrel
    by_cases h0 : k < 3
    · have hrr : Rd wr tInt A1 (3 * 1) (nts l) := HR.out.chg H.out.2 (by
        rintro g cur fz hg rfl
        have := HF1.out.bits
        unfold Blk at this
        rw [this] at hg
        cases hg)
      obtain ⟨g, off, rfl, hg, hx⟩ := hrr.at_ (j := k) (by omega)
      have hkl : k < l.length := by omega
      obtain ⟨i, hi⟩ : ∃ i, i = l[k] := ⟨_, rfl⟩
      have hi256 : i < 256 := by rw [hi]; exact HLT.out _ (List.getElem_mem _)
      have ci := hx k _ (nts_get l k hkl)
      rw [← hi] at ci
      have cq := H.out.1.head.cell 0
      simp at cq
      have cb := H.out.1.bits.cell i
      have hbl := H.out.1.len
      have fz := H.out.1.bits.frozen i
      simp only [List.getElem?_toArray] at cb
      rw [bls_get _ _ (by omega)] at cb
      have HI := Lib.hid hi
      have HH := Lib.hid H.out.1
      have HCC := Lib.hid H.out.2
      clear hrr hx hi H
      go_wp2
      go_roundg (3 - (k + 1))
      case measure => omega
      case rel =>
        refine ⟨k + 1, rfl, by omega, rfl, ?_, ?_⟩
        · have e : fadd bs (l.take (k + 1)) = (fadd bs (l.take k)).set i true := by
            rw [List.take_add_one, List.getElem?_eq_getElem hkl, ← HI.out]
            simp [fadd]
          rw [e]
          refine ⟨HH.out.head.far hpq _, ?_, by simpa using hbl⟩
          have := HH.out.bits.set_ i (.bool true)
          rw [bls_set]
          simpa using this
        · exact HCC.out.setCell (.inl rfl) _
    · have e3 : k = 3 := by omega
      subst e3
      rw [List.take_of_length_le (by omega)] at H
      have HH := Lib.hid H
      go_wp2
      go_end0
      exact ⟨rfl, HH.out.1, (HC1.out.mono (fun _ _ h => h.elim)).trans HH.out.2⟩
set_option maxRecDepth 100000 in
theorem bmay_calls (p q : Nat) (bs : List Bool) (s : ByteArray) (w : World) (hf : Flt w p q bs) (hs : s.size ≤ 140737488351232) :
    Calls Tryz.prog 76 #[.pointer (some ⟨p, 0, none⟩), .string s] w fun e w' => e = .returned (.bool (fmay bs (places 256 3 s.data.toList))) ∧ Chg No w w' := by
  have H := Lib.hid (places_calls p q bs s w hf hs)
  have HF := Lib.hid hf
  obtain ⟨l, hl⟩ : ∃ l, l = places 256 3 s.data.toList := ⟨_, rfl⟩
  have hll : l.length = 3 := by rw [hl]; exact places_length _ _ _
  have hlt : ∀ i ∈ l, i < 256 := by rw [hl]; exact places_lt (by decide) _ _
  rw [← hl] at H
  rw [← hl]
  have HLT := Lib.hid hlt
  clear hl hf hlt
  go_enter Tryz.func76, Tryz.ntmps76
  go_wp2_with fail
  refine H.out.mono ?_
  rintro e w1 ⟨v, rfl, ho1, hc1⟩
  obtain ⟨A1, c1, rfl, hc1n, hrd1⟩ := own_slice ho1
  have HR := Lib.hid hrd1
  have HF1 := Lib.hid (HF.out.chg hc1 (fun h => h) (fun h => h))
  have HC1 := Lib.hid hc1
  clear hc1 ho1 hrd1
  go_wp2
  go_loopg [11] 3 (fun g v10 wr => ∃ k : Nat, v10 = .int .i64 k ∧ k ≤ 3 ∧ g = 3 - k ∧ wr = w1 ∧ Hid (fmay bs (l.take k) = true))
  case atStart => exact ⟨0, rfl, by omega, rfl, rfl, rfl⟩
  case round =>
    obtain ⟨k, rfl, hk, rfl, rfl, H⟩ := hrel
    by_cases h0 : k < 3
    · obtain ⟨g, off, rfl, hg, hx⟩ := HR.out.at_ (j := k) (by omega)
      have hkl : k < l.length := by omega
      obtain ⟨i, hi⟩ : ∃ i, i = l[k] := ⟨_, rfl⟩
      have hi256 : i < 256 := by rw [hi]; exact HLT.out _ (List.getElem_mem _)
      have ci := hx k _ (nts_get l k hkl)
      rw [← hi] at ci
      have cq := HF1.out.head.cell 0
      simp at cq
      have cb := HF1.out.bits.cell i
      simp only [List.getElem?_toArray] at cb
      rw [bls_get _ _ (by have := HF1.out.len; omega)] at cb
      have HI := Lib.hid hi
      have hstep : Hid (fmay bs (l.take (k + 1)) = bs.getD i false) := by
        show _ = _
        have := H.out
        rw [List.take_add_one, List.getElem?_eq_getElem hkl, ← hi]
        unfold fmay at this ⊢
        rw [Option.toList, List.all_append, this]
        simp
      have hmi : i ∈ l := by rw [hi]; exact List.getElem_mem _
      have HMI := Lib.hid hmi
      clear hx hi hmi
      cases hb : bs.getD i false with
      | true =>
        rw [hb] at cb hstep
        clear hb
        go_wp2
        go_roundg (3 - (k + 1))
        case measure => omega
        case rel => exact ⟨k + 1, rfl, by omega, rfl, rfl, hstep⟩
      | false =>
        rw [hb] at cb
        have HB := Lib.hid hb
        clear hb
        go_wp2
        go_ret
        refine ⟨?_, HC1.out⟩
        have : fmay bs l = false := by
          rw [Bool.eq_false_iff]
          intro h
          have := List.all_eq_true.1 h i HMI.out
          rw [HB.out] at this
          cases this
        rw [this]; rfl
    · have e3 : k = 3 := by omega
      subst e3
      rw [List.take_of_length_le (by omega)] at H
      go_wp2
      go_ret
      exact ⟨by rw [H.out]; rfl, HC1.out⟩
end Go.Proofs.YtplpbbdakihnfaaGreat
end
