/- slices.Chunk over bytes: its iterator's contract, for every body that keeps its two boxes. -/
import Derived.Test.YtinofdfjaopdcaaImgA
import Derived.RangeFuncWrites
import Derived.RangeFuncNested
import Derived.RangeFuncBound
import Derived.RangeFuncCalls
import Derived.RangeFuncLeaves
import Derived.Shelf.Abstract
import Derived.Shelf.RegionOpen
import Derived.OwnWalkIn
import Derived.TacticsInMore
import Derived.LoopNIn
import Derived.LoopIn
namespace Go.Proofs.Ytinofdfjaopdcaa
open Go.RowKit
attribute [local go_sem] Oper.semAt_some
attribute [local go_sem ↓] Go.wp_at_zero Go.wp_at_succ
set_option linter.unusedSimpArgs false
set_option linter.unusedVariables false

/-- x[lo:hi:hi], of one cell an element, not empty -/
theorem sub_slice3 {P : Program} {T e : TypeId} {z : Value} {bytes : Nat} (hT : P.underlying T = some (.slice e)) (hi : TI P e z 1 bytes) (A : Option Addr) (n c l h : Nat) (h1 : l < h) (h2 : h ≤ n) (h3 : n ≤ c) (W : World) :
    (Instr.slice T (.slice A n c) (some (.int .i64 l)) (some (.int .i64 h)) (some (.int .i64 h))).run P W = .ok (.slice (A.map (·.add l)) (h - l) (h - l)) W := by
  obtain ⟨i, hi', hz, hs, hby⟩ := info_parts hi
  have hsz : (sizeOf e).run P W = .ok 1 W := by simp [sizeOf, typeInfo, hi', hs]
  simp only [Instr.slice, Sem.run_bind, run_underlying hT, Result.andThen, Instr.sliceBounds, Sem.run_pure]
  rw [run_sliceBound _ _ _ _ _ (by omega) (by omega)]
  simp only []
  rw [run_sliceBound _ _ _ _ _ (by omega) (by omega)]
  simp only []
  rw [run_sliceBound _ _ _ _ _ (by omega) (by omega)]
  simp only [hsz]
  simp
  omega

/-- a chunk's number; its value -/
abbrev CkIx (len : Nat) := { j : Nat // j * 376 < len }
def ckV (A : Option Addr) (len j : Nat) : Value := .slice (A.map (·.add (j * 376))) (min 376 (len - j * 376)) (min 376 (len - j * 376))
def ckKp (Bs Bn : Nat) (W W' : World) : Prop := W'.heap[Bs]? = W.heap[Bs]? ∧ W'.heap[Bn]? = W.heap[Bn]?

set_option maxRecDepth 100000 in
set_option maxHeartbeats 2000000 in
theorem chunk1_in (n : Nat) (l Bs Bn B0 : Nat) (A : Option Addr) (len cap : Nat) (hlc : len ≤ cap) (hlen : len ≤ 140737488351232) (J Jx : List (CkIx len) → World → Prop)
    (hJ : AbidesFrom B0 J)
    (hY : ∀ pre x W, J pre W → pre.length < ckN len → YieldAt Fence.wide (n - 1) Try.prog l #[ckV A len x.1] W fun e W' =>
      (e = .returned (.bool true) ∧ J (pre ++ [x]) W' ∧ ckKp Bs Bn W W') ∨ (e = .returned (.bool false) ∧ Jx (pre ++ [x]) W'))
    (W : World) (hBs : W.cell? ⟨Bs, 0, none⟩ = some (.slice A len cap)) (hBn : W.cell? ⟨Bn, 0, none⟩ = some (.int .i64 376)) (h0 : J [] W) :
    CallsIn Fence.wide n Try.prog 87 #[.func (.yield l) #[] #[], .pointer (some ⟨Bs, 0, none⟩), .pointer (some ⟨Bn, 0, none⟩)] W fun e W' => (∃ v, e = .returned v) ∧
      ((∃ xs : List (CkIx len), xs.map (·.1) = List.range (ckN len) ∧ J xs W') ∨ (∃ pre : List (CkIx len), (∃ k, k ≤ ckN len ∧ pre.map (·.1) = List.range k) ∧ Jx pre W')) := by
  refine callsIn_of_wp Try.func87 rfl trivial ?_ rfl
  simp only [Try.ntmps87, List.size_toArray, List.length_cons, List.length_nil, Nat.reduceAdd, Nat.reduceSub, Array.replicate_succ, Array.replicate_zero, List.push_toArray, List.append_toArray, List.nil_append, List.cons_append]
  gi_wp2
  gi_loopw [4] (fun i wr => ∃ (k : Nat) (pre : List (CkIx len)), i = .int .i64 ((k * 376 : Nat) : Int) ∧ k ≤ ckN len ∧ Hid (pre.map (·.1) = List.range k ∧ J pre wr ∧ ckKp Bs Bn W wr))
    (fun i _ => len + 376 - (intOf i).toNat)
  case atStart => exact ⟨0, [], rfl, Nat.zero_le _, ⟨rfl, h0, rfl, rfl⟩⟩
  case round =>
    obtain ⟨k, pre, rfl, hk, H⟩ := hrel
    have hc1 : wr.cell? ⟨Bs, 0, none⟩ = some (.slice A len cap) := (World.cell?_of_block H.out.2.2.1).trans hBs
    have hc2 : wr.cell? ⟨Bn, 0, none⟩ = some (.int .i64 376) := (World.cell?_of_block H.out.2.2.2).trans hBn
    obtain ⟨i, hi⟩ : ∃ i, i = k * 376 := ⟨_, rfl⟩
    rw [← hi]
    by_cases hlt : i < len
    · obtain ⟨m, hm⟩ : ∃ m, m = min 376 (len - i) := ⟨_, rfl⟩
      obtain ⟨A', hs1, _⟩ := sub_slice_l (P := Try.prog) Try.underlying40 ti_u8 A len cap (i : Int) (by omega) (by omega) hlc
      simp only [Int.toNat_natCast] at hs1
      have hs3 := sub_slice3 (P := Try.prog) Try.underlying40 ti_u8 A len cap i (i + m) (by omega) (by omega) hlc
      rw [show i + m - i = m from by omega] at hs3
      have hpl : pre.length = k := by have := congrArg List.length H.out.1; simpa using this
      obtain ⟨x, hx⟩ : ∃ x : CkIx len, x.1 = k := ⟨⟨k, by omega⟩, rfl⟩
      have hyv : ckV A len x.1 = .slice (A.map (·.add i)) m m := by unfold ckV; rw [hx, ← hi, ← hm]
      have HYX := fun N : Nat => Lib.hid (hY pre x (wr.drewN N) (hJ _ _ _ none H.out.2.1 ⟨rfl, rfl, rfl, Nat.le_refl _, fun _ _ _ => rfl⟩ (fun r e => by cases e)) (by rw [hpl]; unfold ckN; omega))
      rw [hyv] at HYX
      have HX := Lib.hid hx
      have HW := Lib.hid H.out.2.2
      have HP := Lib.hid H.out.1
      have hwb : IntKind.i64.wrap ((i : Int) + (m : Int)) = (i : Int) + (m : Int) := IntWalk.i64_in _ (by omega)
      have hmi : (376 : Int) ≤ ((len - i : Nat) : Int) ∨ ((len - i : Nat) : Int) < 376 := by omega
      have z1 : (0 : Int) ≤ (i : Int) := by omega
      have z2 : (i : Int) ≤ (len : Int) := by omega
      simp only [Int.natCast_add] at hs3
      have HI := Lib.hid hi
      have HM := Lib.hid hm
      have hm1 : m ≤ 376 := by omega
      have hm2 : i + m ≤ len := by omega
      have hm3 : 0 < m := by omega
      have hlt2 : (i : Int) < (len : Int) := by omega
      obtain ⟨q, hq⟩ : ∃ q, q = len - i := ⟨_, rfl⟩
      rw [← hq] at hs1
      have hmq : m = min 376 q := by omega
      clear H hi hm hmi hyv hx hq
      gi_wp2
      refine wpIn_wide.2 ?_
      by_cases hb : 376 ≤ q
      · obtain rfl : m = 376 := by omega
        have hb1 : decide ((376 : Int) ≤ (q : Int)) = true := by simp; omega
        have hb2 : (376 : Int) ≤ (q : Int) := by omega
        clear hmq
        go_quiet (fail)
        rename_i nq
        obtain ⟨fn, tmps, assign, body, hy, hR⟩ := (HYX nq).out
        gi_wp2
        refine ⟨fun h => (by cases h), hR.mono ?_⟩
        rintro e W3 (⟨rfl, hJ3, hk3⟩ | ⟨rfl, hJx3⟩)
        · have HJ3 := Lib.hid hJ3
          have HK3 : Hid (ckKp Bs Bn W W3) := ⟨hk3.1.trans HW.out.1, hk3.2.trans HW.out.2⟩
          have hc3 : W3.cell? ⟨Bn, 0, none⟩ = some (.int .i64 376) := (World.cell?_of_block HK3.out.2).trans hBn
          clear hJ3 hk3
          gi_wp2
          go_roundw
          case rel => exact ⟨k + 1, pre ++ [x], by rw [HI.out]; go_num, by unfold ckN; have := HI.out; omega, ⟨by rw [List.map_append, HP.out, List.range_succ, ← HX.out]; rfl, HJ3.out, HK3.out⟩⟩
          case measure => simp [intOf]; omega
        · have HJ3 := Lib.hid hJx3
          clear hJx3
          gi_wp2
          refine bodyPost_ret (results_none rfl _ _ _) rfl ?_
          exact ⟨⟨_, rfl⟩, .inr ⟨pre ++ [x], ⟨k + 1, by unfold ckN; have := HI.out; omega, by rw [List.map_append, HP.out, List.range_succ, ← HX.out]; rfl⟩, HJ3.out⟩⟩
      · obtain rfl : m = q := by omega
        have hb1 : decide ((376 : Int) ≤ (m : Int)) = false := by simp; omega
        have hb2 : (m : Int) < (376 : Int) := by omega
        clear hmq
        go_quiet (fail)
        rename_i nq
        obtain ⟨fn, tmps, assign, body, hy, hR⟩ := (HYX nq).out
        gi_wp2
        refine ⟨fun h => (by cases h), hR.mono ?_⟩
        rintro e W3 (⟨rfl, hJ3, hk3⟩ | ⟨rfl, hJx3⟩)
        · have HJ3 := Lib.hid hJ3
          have HK3 : Hid (ckKp Bs Bn W W3) := ⟨hk3.1.trans HW.out.1, hk3.2.trans HW.out.2⟩
          have hc3 : W3.cell? ⟨Bn, 0, none⟩ = some (.int .i64 376) := (World.cell?_of_block HK3.out.2).trans hBn
          clear hJ3 hk3
          gi_wp2
          go_roundw
          case rel => exact ⟨k + 1, pre ++ [x], by rw [HI.out]; go_num, by unfold ckN; have := HI.out; omega, ⟨by rw [List.map_append, HP.out, List.range_succ, ← HX.out]; rfl, HJ3.out, HK3.out⟩⟩
          case measure => simp [intOf]; omega
        · have HJ3 := Lib.hid hJx3
          clear hJx3
          gi_wp2
          refine bodyPost_ret (results_none rfl _ _ _) rfl ?_
          exact ⟨⟨_, rfl⟩, .inr ⟨pre ++ [x], ⟨k + 1, by unfold ckN; have := HI.out; omega, by rw [List.map_append, HP.out, List.range_succ, ← HX.out]; rfl⟩, HJ3.out⟩⟩
    · gi_wp2
      go_end0
      exact ⟨⟨_, rfl⟩, .inl ⟨pre, by rw [H.out.1]; congr 1; unfold ckN at hk ⊢; omega, H.out.2.1⟩⟩

/-- slices.Chunk -/
theorem chunk_calls (A : Option Addr) (len cap : Nat) (w : World) :
    Calls Try.prog 50 #[.slice A len cap, .int .i64 376] w fun e w' => e = .returned (.func (.func 87) #[] #[.pointer (some ⟨w.heap.size, 0, none⟩), .pointer (some ⟨w.heap.size + 1, 0, none⟩)]) ∧
      w' = (w.alloc (.cells #[.slice A len cap] 40)).alloc (.cells #[.int .i64 376] 3) := by
  go_enter Try.func50, Try.ntmps50
  go_wp2
  go_ret
  exact ⟨by simp, rfl⟩

/-- what Chunk hands back, for every body that keeps its two boxes -/
theorem chunk_stops (n : Nat) (Bs Bn : Nat) (A : Option Addr) (len cap : Nat) (hlc : len ≤ cap) (hlen : len ≤ 140737488351232) (w : World) (hBs : Bs < w.heap.size) (hBn : Bn < w.heap.size)
    (hc : w.cell? ⟨Bs, 0, none⟩ = some (.slice A len cap)) (hc2 : w.cell? ⟨Bn, 0, none⟩ = some (.int .i64 376)) :
    SeqStopsK Fence.wide n Try.prog 87 #[.pointer (some ⟨Bs, 0, none⟩), .pointer (some ⟨Bn, 0, none⟩)] (fun x : CkIx len => #[ckV A len x.1]) (ckKp Bs Bn) (fun xs => xs.map (·.1) = List.range (ckN len)) (fun pre => ∃ k, k ≤ ckN len ∧ pre.map (·.1) = List.range k) (ckN len) w :=
  fun l J Jx W hW hJ _ hY h0 => chunk1_in n l Bs Bn W.heap.size A len cap hlc hlen J Jx hJ hY W ((hW.cell (p := ⟨Bs, 0, none⟩) hBs).trans hc) ((hW.cell (p := ⟨Bn, 0, none⟩) hBn).trans hc2) h0
end Go.Proofs.Ytinofdfjaopdcaa
