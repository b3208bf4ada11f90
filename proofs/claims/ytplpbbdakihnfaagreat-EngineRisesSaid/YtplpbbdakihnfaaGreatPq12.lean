/- Packed texts: SupA. -/
import Derived.Test.YtplpbbdakihnfaaGreatPq03
import Derived.Test.YtplpbbdakihnfaaGreatPq02
import Derived.Deep.RegionHeld3
import Derived.StillTailTactics
import Derived.Shelf.RegionOpen
set_option linter.unusedSimpArgs false
set_option linter.unusedVariables false
section
namespace Go.Proofs.YtplpbbdakihnfaaGreat
open Go.RowKit
attribute [local go_sem ↓] Go.wp_at_zero Go.wp_at_succ
def lput (L : List UInt8) (off : Nat) (xs : List UInt8) : List UInt8 := L.take off ++ (xs ++ L.drop (off + xs.length))
theorem lput_nil (L : List UInt8) (off : Nat) : lput L off [] = L := by simp [lput]
theorem lput_len {L : List UInt8} {off : Nat} {xs : List UInt8} (h : off + xs.length ≤ L.length) : (lput L off xs).length = L.length := by
  simp only [lput, List.length_append, List.length_take, List.length_drop]; omega
theorem lput_snoc {L : List UInt8} {off : Nat} {xs : List UInt8} (b : UInt8) (h : off + xs.length < L.length) : lput L off (xs ++ [b]) = (lput L off xs).set (off + xs.length) b := by
  unfold lput
  have e : L.drop (off + xs.length) = L[off + xs.length] :: L.drop (off + xs.length + 1) := List.drop_eq_getElem_cons h
  have e1 : L.take off ++ (xs ++ L[off + xs.length] :: L.drop (off + xs.length + 1)) = (L.take off ++ xs) ++ L[off + xs.length] :: L.drop (off + xs.length + 1) := by simp
  rw [e, e1, List.set_append_right _ _ (by simp only [List.length_append, List.length_take]; omega)]
  have e2 : off + xs.length - (L.take off ++ xs).length = 0 := by simp [List.length_take]; omega
  rw [e2, List.set_cons_zero, List.length_append]
  simp [Nat.add_assoc]
theorem lput_at (a b c xs : List UInt8) (off : Nat) (h1 : a.length = off) (h2 : b.length = xs.length) : lput (a ++ (b ++ c)) off xs = a ++ (xs ++ c) := by
  subst h1
  unfold lput
  rw [List.take_left, ← List.drop_drop, List.drop_left, ← h2, List.drop_left]
theorem bys_set (L : List UInt8) (i : Nat) (b : UInt8) : (bys L).toArray.setIfInBounds i (.int .u8 b.toNat) = (bys (L.set i b)).toArray := by
  unfold bys
  rw [List.map_set]
  simp
set_option maxRecDepth 100000 in
theorem slay_calls (w : World) (g off n c : Nat) (L : List UInt8) (v : Nat) (hb : Blk w g tU8 (bys L).toArray) (hl : off + n ≤ L.length) (hn : n ≤ 8) (hv : v < 18446744073709551616) :
    Calls Tryz.prog 114 #[.slice (some ⟨g, off, none⟩) n c, .int .u64 v] w fun e w' => e = .returned (.tuple #[]) ∧ Blk w' g tU8 (bys (lput L off (le n v))).toArray ∧ Chg (fun k => k = g) w w' := by
  have HB := Lib.hid hb
  clear hb
  go_enter Tryz.func114, Tryz.ntmps114
  go_wp2
  go_loopg [7] n (fun gk vi wr => ∃ k : Nat, gk = n - k ∧ k ≤ n ∧ vi = .int .i64 k ∧ Hid (Blk wr g tU8 (bys (lput L off (le k v))).toArray ∧ Chg (fun k => k = g) w wr))
  case atStart => exact ⟨0, rfl, Nat.zero_le _, rfl, by simpa [le, lput_nil] using HB.out, Chg.refl _ _⟩
  case round =>
    obtain ⟨k, rfl, hk, rfl, H⟩ := hrel
    by_cases hlt : k < n
    · have hkn : (k : Int) < (n : Int) := by omega
      have hlen : (lput L off (le k v)).length = L.length := lput_len (by rw [le_length]; omega)
      have hfz := H.out.1.frozen (off + k)
      have hcell : ∃ u, wr.cell? ⟨g, off + k, none⟩ = some u := by
        rw [H.out.1.cell (off + k)]
        exact ⟨_, Array.getElem?_eq_getElem (by simp [bys_length, hlen]; omega)⟩
      obtain ⟨u, hcell⟩ := hcell
      have e1 : IntKind.i64.wrap (8 * (k : Int)) = 8 * (k : Int) := IntWalk.i64_in _ (by omega)
      go_wp2_with fail
      go_roundg (n - (k + 1))
      case measure => omega
      case rel =>
        refine ⟨k + 1, rfl, by omega, by go_num, ?_, H.out.2.setCell (.inl rfl) _⟩
        have hs := H.out.1.set_ (off + k) (.int .u8 ((v : Int) / 2 ^ (8 * k) % 256))
        rw [← le_byte v k, bys_set] at hs
        rw [← le_byte v k, le_snoc, lput_snoc _ (by rw [le_length]; omega), le_length]
        exact hs
    · obtain rfl : k = n := by omega
      go_wp2
      go_end0
      exact ⟨rfl, H.out.1, H.out.2⟩
abbrev tSb : TypeId := 30
def bl (b : Bool) : Value := .bool b
def sbc (b : Sb) : List Value := [.int .u64 b.seq, .int .u64 b.epoch, .int .u64 b.reserved, .int .u64 b.horizon, .int .u64 b.gen, .bool b.clean, .int .i64 b.image]
def sbV (b : Sb) : Value := .agg (sbc b).toArray
def encV (b : Sb) : List Nat := [b.seq, b.epoch, b.reserved, b.horizon, b.gen]
def encL (b : Sb) : Nat → List UInt8
  | 0 => [83, 85, 80, 69] ++ List.replicate 60 0
  | k + 1 => lput (encL b k) (4 + 8 * k) (le 8 ((encV b).getD k 0))
theorem encL_len (b : Sb) : ∀ k, k ≤ 5 → (encL b k).length = 64 := by
  intro k
  induction k with
  | zero => intro _; rfl
  | succ k ih =>
    intro hk
    rw [encL, lput_len (by rw [ih (by omega), le_length]; omega), ih (by omega)]
def encA (b : Sb) : List UInt8 := if b.clean then (encL b 5).set 44 1 else encL b 5
def encB (b : Sb) : List UInt8 := if 0 ≤ b.image ∧ b.image ≤ 2147483647 then lput (encA b) 48 (le 4 b.image.toNat) else encA b
theorem encL_five (b : Sb) : encL b 5 = [83, 85, 80, 69] ++ (le 8 b.seq ++ (le 8 b.epoch ++ (le 8 b.reserved ++ (le 8 b.horizon ++ (le 8 b.gen ++ List.replicate 20 0))))) := by
  have e2 : ∀ a b c : List UInt8, a ++ (b ++ c) = (a ++ b) ++ c := fun a b c => (List.append_assoc a b c).symm
  have e3 : ∀ a b c : List UInt8, (a ++ b) ++ c = a ++ (b ++ c) := fun a b c => List.append_assoc a b c
  have h1 : encL b 1 = [83, 85, 80, 69] ++ (le 8 b.seq ++ List.replicate 52 0) := lput_at _ (List.replicate 8 0) (List.replicate 52 0) _ 4 rfl (by rw [le_length]; rfl)
  have h2 : encL b 2 = ([83, 85, 80, 69] ++ le 8 b.seq) ++ (le 8 b.epoch ++ List.replicate 44 0) := by
    show lput (encL b 1) 12 _ = _
    rw [h1, e2]
    exact lput_at _ (List.replicate 8 0) (List.replicate 44 0) _ 12 (by simp [le_length]) (by rw [le_length]; rfl)
  have h3 : encL b 3 = (([83, 85, 80, 69] ++ le 8 b.seq) ++ le 8 b.epoch) ++ (le 8 b.reserved ++ List.replicate 36 0) := by
    show lput (encL b 2) 20 _ = _
    rw [h2, e2]
    exact lput_at _ (List.replicate 8 0) (List.replicate 36 0) _ 20 (by simp [le_length]) (by rw [le_length]; rfl)
  have h4 : encL b 4 = ((([83, 85, 80, 69] ++ le 8 b.seq) ++ le 8 b.epoch) ++ le 8 b.reserved) ++ (le 8 b.horizon ++ List.replicate 28 0) := by
    show lput (encL b 3) 28 _ = _
    rw [h3, e2]
    exact lput_at _ (List.replicate 8 0) (List.replicate 28 0) _ 28 (by simp [le_length]) (by rw [le_length]; rfl)
  have h5 : encL b 5 = (((([83, 85, 80, 69] ++ le 8 b.seq) ++ le 8 b.epoch) ++ le 8 b.reserved) ++ le 8 b.horizon) ++ (le 8 b.gen ++ List.replicate 20 0) := by
    show lput (encL b 4) 36 _ = _
    rw [h4, e2]
    exact lput_at _ (List.replicate 8 0) (List.replicate 20 0) _ 36 (by simp [le_length]) (by rw [le_length]; rfl)
  rw [h5]
  simp only [List.append_assoc]
def encH (b : Sb) : List UInt8 := [83, 85, 80, 69] ++ (le 8 b.seq ++ (le 8 b.epoch ++ (le 8 b.reserved ++ (le 8 b.horizon ++ le 8 b.gen))))
theorem encH_len (b : Sb) : (encH b).length = 44 := by simp [encH, le_length]
theorem encA_eq (b : Sb) : encA b = encH b ++ ([if b.clean then 1 else 0] ++ List.replicate 19 0) := by
  have e : encL b 5 = encH b ++ List.replicate 20 0 := by rw [encL_five]; simp only [encH, List.append_assoc]
  unfold encA
  rw [e]
  cases b.clean with
  | true =>
    simp only [if_true]
    rw [List.set_append_right _ _ (by rw [encH_len]; omega), encH_len]
    rfl
  | false => rfl
theorem encB_eq (b : Sb) : encB b = b.enc0 ++ List.replicate 4 0 := by
  have e0 : b.enc0 = (encH b ++ ([if b.clean then 1 else 0] ++ [0, 0, 0])) ++ (le 4 b.img ++ List.replicate 8 0) := by simp only [Sb.enc0, encH, List.append_assoc]
  have eA : encA b = (encH b ++ ([if b.clean then 1 else 0] ++ [0, 0, 0])) ++ (List.replicate 4 0 ++ List.replicate 12 0) := by
    rw [encA_eq]
    simp only [List.append_assoc]
    rfl
  unfold encB
  rw [e0]
  split
  · rename_i h
    have ei : b.img = b.image.toNat := by unfold Sb.img; rw [if_pos h]
    rw [eA, lput_at _ _ _ _ 48 (by simp [encH_len]) (by rw [le_length]; rfl), ei]
    simp only [List.append_assoc]
    rfl
  · rename_i h
    have ei : b.img = 0 := by unfold Sb.img; rw [if_neg h]
    rw [eA, ei]
    simp only [List.append_assoc]
    rfl
theorem encB_len (b : Sb) : (encB b).length = 64 := by rw [encB_eq, List.length_append, Sb.enc0_len]; rfl
theorem encB_fin (b : Sb) : lput (encB b) 60 (le 4 (crc ((encB b).take 60))) = b.enc := by
  have e : (encB b).take 60 = b.enc0 := by rw [encB_eq, ← b.enc0_len, List.take_left]
  rw [e, encB_eq]
  have := lput_at b.enc0 (List.replicate 4 0) [] (le 4 (crc b.enc0)) 60 b.enc0_len (by rw [le_length]; rfl)
  rw [List.append_nil, List.append_nil] at this
  exact this
set_option maxRecDepth 100000 in
set_option maxHeartbeats 4000000 in
theorem encode_calls (b : Sb) (hb : b.Ok) (w : World) :
    Calls Tryz.prog 89 #[sbV b] w fun e w' => ∃ g, e = .returned (.slice (some ⟨g, 0, none⟩) 64 64) ∧ Blk w' g tU8 (bys b.enc).toArray ∧ w.heap.size ≤ g ∧ Chg No w w' := by
  obtain ⟨s, ep, rs, hz, gn, cl, im⟩ := b
  obtain ⟨h1, h2, h3, h4, h5, h6⟩ := hb
  simp only at h1 h2 h3 h4 h5 h6
  have hmk : ∀ W : World, (Instr.makeSlice tBytes (.int .i64 64) (.int .i64 64)).run Tryz.prog W = .ok (.slice (some ⟨W.heap.size, 0, none⟩) 64 64) (W.alloc (.cells (mk 64 (.int .u8 0)) tU8)) := fun W => run_mk W Tryz.underlying40 ti_u8 rfl 64 (by decide) (by decide)
  have HM := fun W => Lib.hid (smagic_calls W)
  simp only [sbV, sbc]
  go_enter Tryz.func89, Tryz.ntmps89
  go_wp2_with fail
  refine (HM _).out.mono ?_
  rintro e w1 ⟨rfl, rfl⟩
  have hP : Blk (((w.alloc (.cells #[.int .u64 s, .int .u64 ep, .int .u64 rs, .int .u64 hz, .int .u64 gn, .bool cl, .int .i64 im] tSb)).alloc (.cells (mk 64 (.int .u8 0)) tU8)).alloc (.cells #[.int .u8 83, .int .u8 85, .int .u8 80, .int .u8 69] tU8)) (w.heap.size + 1) tU8 (mk 64 (.int .u8 0)) := by
    have := (Blk.new (w.alloc (.cells #[.int .u64 s, .int .u64 ep, .int .u64 rs, .int .u64 hz, .int .u64 gn, .bool cl, .int .i64 im] tSb)) tU8 (mk 64 (.int .u8 0))).alloc (.cells #[.int .u8 83, .int .u8 85, .int .u8 80, .int .u8 69] tU8)
    simpa using this
  have hX : Blk (((w.alloc (.cells #[.int .u64 s, .int .u64 ep, .int .u64 rs, .int .u64 hz, .int .u64 gn, .bool cl, .int .i64 im] tSb)).alloc (.cells (mk 64 (.int .u8 0)) tU8)).alloc (.cells #[.int .u8 83, .int .u8 85, .int .u8 80, .int .u8 69] tU8)) w.heap.size tSb #[.int .u64 s, .int .u64 ep, .int .u64 rs, .int .u64 hz, .int .u64 gn, .bool cl, .int .i64 im] := ((Blk.new w _ _).alloc _).alloc _
  have hR := rd_smagic ((w.alloc (.cells #[.int .u64 s, .int .u64 ep, .int .u64 rs, .int .u64 hz, .int .u64 gn, .bool cl, .int .i64 im] tSb)).alloc (.cells (mk 64 (.int .u8 0)) tU8))
  simp only [World.size_alloc] at hR
  have hC : Chg No w (((w.alloc (.cells #[.int .u64 s, .int .u64 ep, .int .u64 rs, .int .u64 hz, .int .u64 gn, .bool cl, .int .i64 im] tSb)).alloc (.cells (mk 64 (.int .u8 0)) tU8)).alloc (.cells #[.int .u8 83, .int .u8 85, .int .u8 80, .int .u8 69] tU8)) := by (repeat (first | (with_reducible exact Chg.refl _ _) | (with_reducible assumption) | (with_reducible refine Chg.drewN ?_ _) | (with_reducible refine Chg.drew ?_) | (with_reducible refine Chg.alloc ?_ _) | (with_reducible refine Chg.setCell ?_ (by first | (left; simp [DevH.foot]; done) | (right; simp; done) | (right; simp; omega)) _)))
  have HP := Lib.hid hP
  have HX := Lib.hid hX
  have HR := Lib.hid hR
  have HC := Lib.hid hC
  clear hP hX hR hC HM hmk
  go_wp2_with (with_reducible refine wpList_cp _ rfl (.tmp 7) (.tmp 8) _ _ rfl tU8 Tryz.underlying40 ti_u8 (w.heap.size + 1) 0 64 64 _ 4 4 rfl rfl tU8 _ HP.out tU8 (bys [83, 85, 80, 69]) HR.out (by rw [mk_size]; omega) bys_one ?_)
  intro w2 hb2 hc2
  have hB : Blk w2 (w.heap.size + 1) tU8 (bys (encL ⟨s, ep, rs, hz, gn, cl, im⟩ 0)).toArray := hb2
  have hX2 := HX.out.chg hc2 (by omega)
  have hC2 : Chg No w w2 := HC.out.then hc2 (fun i hi h => by omega)
  obtain ⟨b, hbe⟩ : ∃ b : Sb, b = ⟨s, ep, rs, hz, gn, cl, im⟩ := ⟨_, rfl⟩
  rw [← hbe] at hB
  have HB := Lib.hid hB
  have HX2 := Lib.hid hX2
  have HC2 := Lib.hid hC2
  have HBE := Lib.hid hbe
  have x0 := hX2.cell 0
  have x1 := hX2.cell 1
  have x2 := hX2.cell 2
  have x3 := hX2.cell 3
  have x4 := hX2.cell 4
  simp at x0 x1 x2 x3 x4
  clear hb2 hc2 hB hX2 hC2 hbe HP HX HR HC
  go_wp2
  have HLN := fun k => Lib.hid (encL_len b k)
  go_loopg [21] 5 (fun gk vi wr => ∃ k : Nat, gk = 5 - k ∧ k ≤ 5 ∧ vi = .int .i64 k ∧ Hid (Blk wr (w.heap.size + 1) tU8 (bys (encL b k)).toArray ∧ Chg (fun j => j = w.heap.size + 1) w2 wr))
  case atStart => exact ⟨0, rfl, Nat.zero_le _, rfl, HB.out, Chg.refl _ _⟩
  case round =>
    obtain ⟨k, rfl, hk, rfl, H⟩ := hrel
    rcases (by omega : k = 0 ∨ k = 1 ∨ k = 2 ∨ k = 3 ∨ k = 4 ∨ k = 5) with rfl | rfl | rfl | rfl | rfl | rfl
    ·
      have hix : ∀ W : World, (Instr.index 158 (.agg #[.int .u64 s, .int .u64 ep, .int .u64 rs, .int .u64 hz, .int .u64 gn]) (.int .i64 0)).run Tryz.prog W = .ok (.int .u64 s) W := fun W => by simp [Instr.index, run_underlying Tryz.underlying158, asIntOf, go_sem]
      have HLY := Lib.hid (slay_calls wr (w.heap.size + 1) 4 8 60 (encL b 0) s H.out.1 (by rw [(HLN 0).out (by omega)]; omega) (by omega) h1)
      have HEL : Hid (encL b (0 + 1) = lput (encL b 0) 4 (le 8 s)) := by show _ = _; rw [HBE.out]; rfl
      have HCR := Lib.hid H.out.2
      clear H
      go_wp2_with fail
      refine HLY.out.mono ?_
      rintro e w3 ⟨rfl, hb3, hc3⟩
      have HB3 := Lib.hid hb3
      have HC3 := Lib.hid (HCR.out.trans hc3)
      clear hb3 hc3 HLY
      go_wp2
      go_roundg (5 - (0 + 1))
      case measure => omega
      case rel => exact ⟨0 + 1, rfl, by omega, by go_num, by rw [HEL.out]; exact HB3.out, HC3.out⟩
    ·
      have hix : ∀ W : World, (Instr.index 158 (.agg #[.int .u64 s, .int .u64 ep, .int .u64 rs, .int .u64 hz, .int .u64 gn]) (.int .i64 1)).run Tryz.prog W = .ok (.int .u64 ep) W := fun W => by simp [Instr.index, run_underlying Tryz.underlying158, asIntOf, go_sem]
      have HLY := Lib.hid (slay_calls wr (w.heap.size + 1) 12 8 52 (encL b 1) ep H.out.1 (by rw [(HLN 1).out (by omega)]; omega) (by omega) h2)
      have HEL : Hid (encL b (1 + 1) = lput (encL b 1) 12 (le 8 ep)) := by show _ = _; rw [HBE.out]; rfl
      have HCR := Lib.hid H.out.2
      clear H
      go_wp2_with fail
      refine HLY.out.mono ?_
      rintro e w3 ⟨rfl, hb3, hc3⟩
      have HB3 := Lib.hid hb3
      have HC3 := Lib.hid (HCR.out.trans hc3)
      clear hb3 hc3 HLY
      go_wp2
      go_roundg (5 - (1 + 1))
      case measure => omega
      case rel => exact ⟨1 + 1, rfl, by omega, by go_num, by rw [HEL.out]; exact HB3.out, HC3.out⟩
    ·
      have hix : ∀ W : World, (Instr.index 158 (.agg #[.int .u64 s, .int .u64 ep, .int .u64 rs, .int .u64 hz, .int .u64 gn]) (.int .i64 2)).run Tryz.prog W = .ok (.int .u64 rs) W := fun W => by simp [Instr.index, run_underlying Tryz.underlying158, asIntOf, go_sem]
      have HLY := Lib.hid (slay_calls wr (w.heap.size + 1) 20 8 44 (encL b 2) rs H.out.1 (by rw [(HLN 2).out (by omega)]; omega) (by omega) h3)
      have HEL : Hid (encL b (2 + 1) = lput (encL b 2) 20 (le 8 rs)) := by show _ = _; rw [HBE.out]; rfl
      have HCR := Lib.hid H.out.2
      clear H
      go_wp2_with fail
      refine HLY.out.mono ?_
      rintro e w3 ⟨rfl, hb3, hc3⟩
      have HB3 := Lib.hid hb3
      have HC3 := Lib.hid (HCR.out.trans hc3)
      clear hb3 hc3 HLY
      go_wp2
      go_roundg (5 - (2 + 1))
      case measure => omega
      case rel => exact ⟨2 + 1, rfl, by omega, by go_num, by rw [HEL.out]; exact HB3.out, HC3.out⟩
    ·
      have hix : ∀ W : World, (Instr.index 158 (.agg #[.int .u64 s, .int .u64 ep, .int .u64 rs, .int .u64 hz, .int .u64 gn]) (.int .i64 3)).run Tryz.prog W = .ok (.int .u64 hz) W := fun W => by simp [Instr.index, run_underlying Tryz.underlying158, asIntOf, go_sem]
      have HLY := Lib.hid (slay_calls wr (w.heap.size + 1) 28 8 36 (encL b 3) hz H.out.1 (by rw [(HLN 3).out (by omega)]; omega) (by omega) h4)
      have HEL : Hid (encL b (3 + 1) = lput (encL b 3) 28 (le 8 hz)) := by show _ = _; rw [HBE.out]; rfl
      have HCR := Lib.hid H.out.2
      clear H
      go_wp2_with fail
      refine HLY.out.mono ?_
      rintro e w3 ⟨rfl, hb3, hc3⟩
      have HB3 := Lib.hid hb3
      have HC3 := Lib.hid (HCR.out.trans hc3)
      clear hb3 hc3 HLY
      go_wp2
      go_roundg (5 - (3 + 1))
      case measure => omega
      case rel => exact ⟨3 + 1, rfl, by omega, by go_num, by rw [HEL.out]; exact HB3.out, HC3.out⟩
    ·
      have hix : ∀ W : World, (Instr.index 158 (.agg #[.int .u64 s, .int .u64 ep, .int .u64 rs, .int .u64 hz, .int .u64 gn]) (.int .i64 4)).run Tryz.prog W = .ok (.int .u64 gn) W := fun W => by simp [Instr.index, run_underlying Tryz.underlying158, asIntOf, go_sem]
      have HLY := Lib.hid (slay_calls wr (w.heap.size + 1) 36 8 28 (encL b 4) gn H.out.1 (by rw [(HLN 4).out (by omega)]; omega) (by omega) h5)
      have HEL : Hid (encL b (4 + 1) = lput (encL b 4) 36 (le 8 gn)) := by show _ = _; rw [HBE.out]; rfl
      have HCR := Lib.hid H.out.2
      clear H
      go_wp2_with fail
      refine HLY.out.mono ?_
      rintro e w3 ⟨rfl, hb3, hc3⟩
      have HB3 := Lib.hid hb3
      have HC3 := Lib.hid (HCR.out.trans hc3)
      clear hb3 hc3 HLY
      go_wp2
      go_roundg (5 - (4 + 1))
      case measure => omega
      case rel => exact ⟨4 + 1, rfl, by omega, by go_num, by rw [HEL.out]; exact HB3.out, HC3.out⟩
    · have hl5 := (HLN 5).out (by omega)
      have x5 := (HX2.out.chg H.out.2 (by omega)).cell 5
      have x6 := (HX2.out.chg H.out.2 (by omega)).cell 6
      simp at x5 x6
      have HB5 := Lib.hid H.out.1
      have HC5 : Hid (Chg No w wr) := HC2.out.then H.out.2 (fun i hi h => by omega)
      have HX5 := Lib.hid (HX2.out.chg H.out.2 (by omega))
      have HCI : Hid (b.clean = cl ∧ b.image = im) := by show _ ∧ _; rw [HBE.out]; exact ⟨rfl, rfl⟩
      clear H x0 x1 x2 x3 x4
      cases cl with
      | true =>
        have hfz := HB5.out.frozen 44
        have hcell : ∃ u, wr.cell? ⟨w.heap.size + 1, 44, none⟩ = some u := by
          rw [HB5.out.cell 44]
          exact ⟨_, Array.getElem?_eq_getElem (by simp [bys_length, hl5])⟩
        obtain ⟨u, hcell⟩ := hcell
        have HBA : Hid (Blk (wr.setCell ⟨w.heap.size + 1, 44, none⟩ (.int .u8 1)) (w.heap.size + 1) tU8 (bys (encA b)).toArray) := by
          have hs := HB5.out.set_ 44 (.int .u8 1)
          have e := bys_set (encL b 5) 44 1
          have e2 : (.int .u8 ((1 : UInt8).toNat : Int) : Value) = .int .u8 1 := rfl
          rw [e2] at e
          rw [e] at hs
          have e3 : encA b = (encL b 5).set 44 1 := by unfold encA; rw [HCI.out.1]; rfl
          rw [e3]; exact hs
        have HXA := Lib.hid (HX5.out.far (p := ⟨w.heap.size + 1, 44, none⟩) (by show w.heap.size ≠ w.heap.size + 1; omega) (.int .u8 1))
        have HCA : Hid (Chg No w (wr.setCell ⟨w.heap.size + 1, 44, none⟩ (.int .u8 1))) := HC5.out.setCell (.inr (by show w.heap.size ≤ w.heap.size + 1; omega)) _
        have x6b : (wr.setCell ⟨w.heap.size + 1, 44, none⟩ (.int .u8 1)).cell? ⟨w.heap.size, 6, none⟩ = some (.int .i64 im) := by have := HXA.out.cell 6; simpa using this
        clear HB5 HX5 HC5
        have HLI : ∀ W : World, Hid (Blk W (w.heap.size + 1) tU8 (bys (encA b)).toArray → 0 ≤ im → im ≤ 2147483647 → Calls Tryz.prog 114 #[.slice (some ⟨w.heap.size + 1, 48, none⟩) 4 16, .int .u64 im] W fun e w' => e = .returned (.tuple #[]) ∧ Blk w' (w.heap.size + 1) tU8 (bys (encB b)).toArray ∧ Chg (fun k => k = w.heap.size + 1) W w') := fun W => fun hb i0 i1 => by
          have := slay_calls W (w.heap.size + 1) 48 4 16 (encA b) im.toNat hb (by rw [encA_eq]; simp [encH_len]) (by omega) (by omega)
          have e64 : ((im.toNat : Nat) : Int) = im := by omega
          have EB : encB b = lput (encA b) 48 (le 4 im.toNat) := by unfold encB; rw [HCI.out.2, if_pos ⟨i0, i1⟩]
          rw [e64, ← EB] at this
          exact this
        have HCRC : ∀ W : World, Hid (Blk W (w.heap.size + 1) tU8 (bys (encB b)).toArray → Calls Tryz.prog 115 #[.slice (some ⟨w.heap.size + 1, 0, none⟩) 60 64] W fun e w' => e = .returned (.int .u32 (crc ((encB b).take 60))) ∧ W = w') := fun W => fun hb =>
          crc_calls (some ⟨w.heap.size + 1, 0, none⟩) 60 64 ((encB b).take 60) W (by
            have := Rd.ofBlk (k := 60) hb (by simp [bys_length, encB_len])
            rw [bys_take]
            simpa using this) (by omega)
        obtain ⟨z, hz⟩ : ∃ z, z = crc ((encB b).take 60) := ⟨_, rfl⟩
        have hzl : z < 4294967296 := by rw [hz]; exact crc_lt _
        rw [← hz] at HCRC
        have HFI : ∀ W : World, Hid (Blk W (w.heap.size + 1) tU8 (bys (encB b)).toArray → Calls Tryz.prog 114 #[.slice (some ⟨w.heap.size + 1, 60, none⟩) 4 4, .int .u64 z] W fun e w' => e = .returned (.tuple #[]) ∧ Blk w' (w.heap.size + 1) tU8 (bys b.enc).toArray ∧ Chg (fun k => k = w.heap.size + 1) W w') := fun W => fun hb => by
          have := slay_calls W (w.heap.size + 1) 60 4 4 (encB b) z hb (by rw [encB_len]; omega) (by omega) (by omega)
          rw [hz, encB_fin, ← hz] at this
          exact this
        clear hz
        by_cases i0 : 0 ≤ im
        · by_cases i1 : im ≤ 2147483647
          · have ew : IntKind.u64.wrap im = im := IntWalk.u64_in _ (by omega)
            go_wp2_with fail
            obtain ⟨wx, hwx⟩ : ∃ wx : World, wx = (wr.setCell ⟨w.heap.size + 1, 44, none⟩ (.int .u8 1)) := ⟨_, rfl⟩
            rw [← hwx] at HBA HXA HCA ⊢
            have x6c := HXA.out.cell 6
            simp at x6c
            have HBD : Hid (Blk wx.drew (w.heap.size + 1) tU8 (bys (encA b)).toArray) := HBA.out.drew
            have HXD : Hid (Blk wx.drew w.heap.size tSb _) := HXA.out.drew
            have HCD : Hid (Chg No w wx.drew) := HCA.out.drew
            clear hwx
            go_still_tail 5, (by kernel_rfl)
            change wpList _ _ _ _ _ wx.drew
            generalize wx.drew = wy at HBD HXD HCD ⊢
            go_wp2_with fail
            refine ((HLI _).out HBD.out i0 i1).mono ?_
            rintro e w3 ⟨rfl, hb3, hc3⟩
            have HBB := Lib.hid hb3
            have HCB : Hid (Chg No w w3) := HCD.out.then hc3 (fun i hi h => by omega)
            clear hb3 hc3
            go_wp2_with fail
            have HBBD : Hid (Blk w3.drew (w.heap.size + 1) tU8 (bys (encB b)).toArray) := HBB.out.drew
            have HCBD : Hid (Chg No w w3.drew) := HCB.out.drew
            go_still_tail 6, (by kernel_rfl)
            still_call (((HCRC w3.drew).out HBBD.out).mono (fun _ _ h => ⟨h.1, h.2.symm⟩))
            repeat still_step
            refine wpStill_nil ?_
            change wpList _ _ _ _ _ w3.drew
            generalize w3.drew = wy at HBBD HCBD ⊢
            go_wp2_with fail
            refine ((HFI _).out HBBD.out).mono ?_
            rintro e w5 ⟨rfl, hb5, hc5⟩
            have HB9 := Lib.hid hb5
            have HC9 : Hid (Chg No w w5) := HCBD.out.then hc5 (fun i hi h => by omega)
            clear hb5 hc5
            go_wp2
            go_ret
            exact ⟨_, rfl, by rw [← HBE.out]; exact HB9.out, Nat.le_succ _, HC9.out⟩
          · have EB : encB b = encA b := by unfold encB; rw [HCI.out.2, if_neg (fun h => i1 h.2)]
            rw [← EB] at HBA
            clear EB
            go_wp2_with fail
            obtain ⟨w3, hwx⟩ : ∃ wx : World, wx = (wr.setCell ⟨w.heap.size + 1, 44, none⟩ (.int .u8 1)) := ⟨_, rfl⟩
            rw [← hwx] at HBA HCA ⊢
            have HBB := HBA
            have HCB := HCA
            clear hwx
            go_wp2_with fail
            have HBBD : Hid (Blk w3.drew (w.heap.size + 1) tU8 (bys (encB b)).toArray) := HBB.out.drew
            have HCBD : Hid (Chg No w w3.drew) := HCB.out.drew
            go_still_tail 6, (by kernel_rfl)
            still_call (((HCRC w3.drew).out HBBD.out).mono (fun _ _ h => ⟨h.1, h.2.symm⟩))
            repeat still_step
            refine wpStill_nil ?_
            change wpList _ _ _ _ _ w3.drew
            generalize w3.drew = wy at HBBD HCBD ⊢
            go_wp2_with fail
            refine ((HFI _).out HBBD.out).mono ?_
            rintro e w5 ⟨rfl, hb5, hc5⟩
            have HB9 := Lib.hid hb5
            have HC9 : Hid (Chg No w w5) := HCBD.out.then hc5 (fun i hi h => by omega)
            clear hb5 hc5
            go_wp2
            go_ret
            exact ⟨_, rfl, by rw [← HBE.out]; exact HB9.out, Nat.le_succ _, HC9.out⟩
        · have EB : encB b = encA b := by unfold encB; rw [HCI.out.2, if_neg (fun h => i0 h.1)]
          rw [← EB] at HBA
          clear EB
          go_wp2_with fail
          obtain ⟨w3, hwx⟩ : ∃ wx : World, wx = (wr.setCell ⟨w.heap.size + 1, 44, none⟩ (.int .u8 1)) := ⟨_, rfl⟩
          rw [← hwx] at HBA HCA ⊢
          have HBB := HBA
          have HCB := HCA
          clear hwx
          go_wp2_with fail
          have HBBD : Hid (Blk w3.drew (w.heap.size + 1) tU8 (bys (encB b)).toArray) := HBB.out.drew
          have HCBD : Hid (Chg No w w3.drew) := HCB.out.drew
          go_still_tail 6, (by kernel_rfl)
          still_call (((HCRC w3.drew).out HBBD.out).mono (fun _ _ h => ⟨h.1, h.2.symm⟩))
          repeat still_step
          refine wpStill_nil ?_
          change wpList _ _ _ _ _ w3.drew
          generalize w3.drew = wy at HBBD HCBD ⊢
          go_wp2_with fail
          refine ((HFI _).out HBBD.out).mono ?_
          rintro e w5 ⟨rfl, hb5, hc5⟩
          have HB9 := Lib.hid hb5
          have HC9 : Hid (Chg No w w5) := HCBD.out.then hc5 (fun i hi h => by omega)
          clear hb5 hc5
          go_wp2
          go_ret
          exact ⟨_, rfl, by rw [← HBE.out]; exact HB9.out, Nat.le_succ _, HC9.out⟩
      | false =>
        have e3 : encA b = encL b 5 := by unfold encA; rw [HCI.out.1]; rfl
        rw [← e3] at HB5
        have HBA := HB5
        have HXA := HX5
        have HCA := HC5
        clear e3
        have HLI : ∀ W : World, Hid (Blk W (w.heap.size + 1) tU8 (bys (encA b)).toArray → 0 ≤ im → im ≤ 2147483647 → Calls Tryz.prog 114 #[.slice (some ⟨w.heap.size + 1, 48, none⟩) 4 16, .int .u64 im] W fun e w' => e = .returned (.tuple #[]) ∧ Blk w' (w.heap.size + 1) tU8 (bys (encB b)).toArray ∧ Chg (fun k => k = w.heap.size + 1) W w') := fun W => fun hb i0 i1 => by
          have := slay_calls W (w.heap.size + 1) 48 4 16 (encA b) im.toNat hb (by rw [encA_eq]; simp [encH_len]) (by omega) (by omega)
          have e64 : ((im.toNat : Nat) : Int) = im := by omega
          have EB : encB b = lput (encA b) 48 (le 4 im.toNat) := by unfold encB; rw [HCI.out.2, if_pos ⟨i0, i1⟩]
          rw [e64, ← EB] at this
          exact this
        have HCRC : ∀ W : World, Hid (Blk W (w.heap.size + 1) tU8 (bys (encB b)).toArray → Calls Tryz.prog 115 #[.slice (some ⟨w.heap.size + 1, 0, none⟩) 60 64] W fun e w' => e = .returned (.int .u32 (crc ((encB b).take 60))) ∧ W = w') := fun W => fun hb =>
          crc_calls (some ⟨w.heap.size + 1, 0, none⟩) 60 64 ((encB b).take 60) W (by
            have := Rd.ofBlk (k := 60) hb (by simp [bys_length, encB_len])
            rw [bys_take]
            simpa using this) (by omega)
        obtain ⟨z, hz⟩ : ∃ z, z = crc ((encB b).take 60) := ⟨_, rfl⟩
        have hzl : z < 4294967296 := by rw [hz]; exact crc_lt _
        rw [← hz] at HCRC
        have HFI : ∀ W : World, Hid (Blk W (w.heap.size + 1) tU8 (bys (encB b)).toArray → Calls Tryz.prog 114 #[.slice (some ⟨w.heap.size + 1, 60, none⟩) 4 4, .int .u64 z] W fun e w' => e = .returned (.tuple #[]) ∧ Blk w' (w.heap.size + 1) tU8 (bys b.enc).toArray ∧ Chg (fun k => k = w.heap.size + 1) W w') := fun W => fun hb => by
          have := slay_calls W (w.heap.size + 1) 60 4 4 (encB b) z hb (by rw [encB_len]; omega) (by omega) (by omega)
          rw [hz, encB_fin, ← hz] at this
          exact this
        clear hz
        by_cases i0 : 0 ≤ im
        · by_cases i1 : im ≤ 2147483647
          · have ew : IntKind.u64.wrap im = im := IntWalk.u64_in _ (by omega)
            go_wp2_with fail
            obtain ⟨wx, hwx⟩ : ∃ wx : World, wx = wr := ⟨_, rfl⟩
            rw [← hwx] at HBA HXA HCA ⊢
            have x6c := HXA.out.cell 6
            simp at x6c
            have HBD : Hid (Blk wx.drew (w.heap.size + 1) tU8 (bys (encA b)).toArray) := HBA.out.drew
            have HXD : Hid (Blk wx.drew w.heap.size tSb _) := HXA.out.drew
            have HCD : Hid (Chg No w wx.drew) := HCA.out.drew
            clear hwx
            go_still_tail 5, (by kernel_rfl)
            change wpList _ _ _ _ _ wx.drew
            generalize wx.drew = wy at HBD HXD HCD ⊢
            go_wp2_with fail
            refine ((HLI _).out HBD.out i0 i1).mono ?_
            rintro e w3 ⟨rfl, hb3, hc3⟩
            have HBB := Lib.hid hb3
            have HCB : Hid (Chg No w w3) := HCD.out.then hc3 (fun i hi h => by omega)
            clear hb3 hc3
            go_wp2_with fail
            have HBBD : Hid (Blk w3.drew (w.heap.size + 1) tU8 (bys (encB b)).toArray) := HBB.out.drew
            have HCBD : Hid (Chg No w w3.drew) := HCB.out.drew
            go_still_tail 6, (by kernel_rfl)
            still_call (((HCRC w3.drew).out HBBD.out).mono (fun _ _ h => ⟨h.1, h.2.symm⟩))
            repeat still_step
            refine wpStill_nil ?_
            change wpList _ _ _ _ _ w3.drew
            generalize w3.drew = wy at HBBD HCBD ⊢
            go_wp2_with fail
            refine ((HFI _).out HBBD.out).mono ?_
            rintro e w5 ⟨rfl, hb5, hc5⟩
            have HB9 := Lib.hid hb5
            have HC9 : Hid (Chg No w w5) := HCBD.out.then hc5 (fun i hi h => by omega)
            clear hb5 hc5
            go_wp2
            go_ret
            exact ⟨_, rfl, by rw [← HBE.out]; exact HB9.out, Nat.le_succ _, HC9.out⟩
          · have EB : encB b = encA b := by unfold encB; rw [HCI.out.2, if_neg (fun h => i1 h.2)]
            rw [← EB] at HBA
            clear EB
            go_wp2_with fail
            obtain ⟨w3, hwx⟩ : ∃ wx : World, wx = wr := ⟨_, rfl⟩
            rw [← hwx] at HBA HCA ⊢
            have HBB := HBA
            have HCB := HCA
            clear hwx
            go_wp2_with fail
            have HBBD : Hid (Blk w3.drew (w.heap.size + 1) tU8 (bys (encB b)).toArray) := HBB.out.drew
            have HCBD : Hid (Chg No w w3.drew) := HCB.out.drew
            go_still_tail 6, (by kernel_rfl)
            still_call (((HCRC w3.drew).out HBBD.out).mono (fun _ _ h => ⟨h.1, h.2.symm⟩))
            repeat still_step
            refine wpStill_nil ?_
            change wpList _ _ _ _ _ w3.drew
            generalize w3.drew = wy at HBBD HCBD ⊢
            go_wp2_with fail
            refine ((HFI _).out HBBD.out).mono ?_
            rintro e w5 ⟨rfl, hb5, hc5⟩
            have HB9 := Lib.hid hb5
            have HC9 : Hid (Chg No w w5) := HCBD.out.then hc5 (fun i hi h => by omega)
            clear hb5 hc5
            go_wp2
            go_ret
            exact ⟨_, rfl, by rw [← HBE.out]; exact HB9.out, Nat.le_succ _, HC9.out⟩
        · have EB : encB b = encA b := by unfold encB; rw [HCI.out.2, if_neg (fun h => i0 h.1)]
          rw [← EB] at HBA
          clear EB
          go_wp2_with fail
          obtain ⟨w3, hwx⟩ : ∃ wx : World, wx = wr := ⟨_, rfl⟩
          rw [← hwx] at HBA HCA ⊢
          have HBB := HBA
          have HCB := HCA
          clear hwx
          go_wp2_with fail
          have HBBD : Hid (Blk w3.drew (w.heap.size + 1) tU8 (bys (encB b)).toArray) := HBB.out.drew
          have HCBD : Hid (Chg No w w3.drew) := HCB.out.drew
          go_still_tail 6, (by kernel_rfl)
          still_call (((HCRC w3.drew).out HBBD.out).mono (fun _ _ h => ⟨h.1, h.2.symm⟩))
          repeat still_step
          refine wpStill_nil ?_
          change wpList _ _ _ _ _ w3.drew
          generalize w3.drew = wy at HBBD HCBD ⊢
          go_wp2_with fail
          refine ((HFI _).out HBBD.out).mono ?_
          rintro e w5 ⟨rfl, hb5, hc5⟩
          have HB9 := Lib.hid hb5
          have HC9 : Hid (Chg No w w5) := HCBD.out.then hc5 (fun i hi h => by omega)
          clear hb5 hc5
          go_wp2
          go_ret
          exact ⟨_, rfl, by rw [← HBE.out]; exact HB9.out, Nat.le_succ _, HC9.out⟩
end Go.Proofs.YtplpbbdakihnfaaGreat
end
