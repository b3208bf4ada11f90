/- region's byNumber, done, has, item, Get, May, Drop, Number, walked. -/
import Derived.Test.YtcmobcbecbajiaaRegD
import Derived.Test.YtcmobcbecbajiaaComm
namespace Go.Proofs.Ytcmobcbecbajiaa
open Go.RowKit
attribute [local go_sem ↓] Go.wp_at_zero Go.wp_at_succ
set_option linter.unusedSimpArgs false
set_option linter.unusedVariables false

theorem ti_int : TI Try.prog tInt1 (.int .i64 0) 1 8 := (by kernel_rfl : (Try.prog.info? tInt1).map (fun i => (i.zero, i.size, i.bytes)) = some (some (.int .i64 0), 1, 8))

theorem rd_one2 (w : World) (o : Obj) (t : TypeId) (u : Value) : Rd ((w.alloc o).alloc (.cells #[u] t)) t (some ⟨w.heap.size + 1, 0, none⟩) (1 * 1) [u] := by
  have := rd_one (w.alloc o) t u
  rwa [World.size_alloc] at this
theorem counts_succ (regs : List Sealed) (k : Nat) : ((List.range (k + 1)).filter fun i => decide (0 < rnum regs i)) = ((List.range k).filter fun i => decide (0 < rnum regs i)) ++ (if 0 < rnum regs k then [k] else []) := by
  rw [List.range_succ, List.filter_append]
  congr 1
  simp only [List.filter_cons, List.filter_nil, decide_eq_true_eq]
theorem counts_mem {regs : List Sealed} {k i : Nat} (h : i ∈ (List.range k).filter fun i => decide (0 < rnum regs i)) : i < k := by
  have := (List.mem_filter.1 h).1
  exact List.mem_range.1 this
theorem counts_len (regs : List Sealed) (k : Nat) : ((List.range k).filter fun i => decide (0 < rnum regs i)).length ≤ k := by
  have := List.length_filter_le (fun i => decide (0 < rnum regs i)) (List.range k)
  simpa using this

set_option maxHeartbeats 2000000 in
theorem byNumber_calls {w : World} {h : DevH} {t : LgH} {G : Lg} (hl : LgAt w h t G) (h20 : G.regs.length < 20) :
    Calls Try.prog 67 #[.pointer (some ⟨t.L, 0, none⟩)] w fun e w' => ∃ v, e = .returned v ∧ w'.ownsRow w.heap.size tInt1 1 v (byNum G.regs).length (ints (byNum G.regs)) ∧ Chg No w w' := by
  obtain ⟨ses, hn, ho, hs⟩ := hl.regs
  obtain ⟨A, c, hR, hnc, hrd⟩ := own_slice ho
  have c3 := hl.box.cell 3
  simp at c3
  rw [hR] at c3
  have hpos := hl.ok.pos
  obtain ⟨g, off, rfl, hg, hx⟩ := hrd.at_ (j := 0) (by omega)
  have HX : Hid (∀ k, k < G.regs.length → ∃ Av lv cv, w.cell? ⟨g, off + k * 2, none⟩ = some (.int .u64 (rnum G.regs k : Nat)) ∧ w.cell? ⟨g, off + (k * 2 + 1), none⟩ = some (.slice Av lv cv)) := by
    intro k hk
    obtain ⟨v, hv, Av, cv, rfl, _⟩ := hs k _ (List.getElem?_eq_getElem hk)
    have e : rnum G.regs k = (G.regs[k]).num := by unfold rnum; rw [List.getD_eq_getElem?_getD, List.getElem?_eq_getElem hk]; rfl
    have h1 := hx (k * 2) _ (secs_get ses k _ hv).1
    have h2 := hx (k * 2 + 1) _ (secs_get ses k _ hv).2
    rw [← e] at h1
    exact ⟨_, _, _, h1, h2⟩
  have HL := Lib.hid hl
  have HB : Hid (byNum G.regs = sortR (rnum G.regs) (counts G.regs)) := rfl
  have hll : t.L < w.heap.size := hl.lt _ hl.ownL
  obtain ⟨n, hnn⟩ : ∃ n, G.regs.length = n := ⟨_, rfl⟩
  rw [hnn] at c3 hpos h20 HX
  have HCN : Hid (counts G.regs = (List.range n).filter fun i => decide (0 < rnum G.regs i)) := by show _ = _; unfold counts; rw [hnn]
  have HNN := Lib.hid hnn
  clear hl hn ho hs hR hrd hx hnn
  go_enter Try.func67, Try.ntmps67
  go_wp2
  go_loopg [3, 11] n (fun gk vv vi wr => ∃ (k : Nat) (v3 : Value), v3 = vv ∧ gk = n - k ∧ k ≤ n ∧ vi = .int .i64 k ∧ Hid (wr.ownsRow (w.heap.size + 1) tInt1 1 v3 ((List.range k).filter fun i => decide (0 < rnum G.regs i)).length (ints ((List.range k).filter fun i => decide (0 < rnum G.regs i))) ∧ Chg No w wr ∧ Blk wr w.heap.size 48 #[.pointer (some ⟨t.L, 0, none⟩)]))
  case atStart => exact ⟨0, _, rfl, rfl, Nat.zero_le _, rfl, by simpa [ints] using World.ownsRow_nil _ _ _ _, by (repeat (first | (with_reducible exact Chg.refl _ _) | (with_reducible assumption) | (with_reducible refine Chg.drewN ?_ _) | (with_reducible refine Chg.drew ?_) | (with_reducible refine Chg.alloc ?_ _) | (with_reducible refine Chg.setCell ?_ (by first | (left; simp [DevH.foot]; done) | (right; simp; done) | (right; simp; omega)) _))), Blk.new _ _ _⟩
  case round =>
    obtain ⟨k, v3, rfl, rfl, hk, rfl, H⟩ := hrel
    by_cases hlt : k < n
    · obtain ⟨Av, lv, cv, q0, q1⟩ := HX.out k hlt
      have hgl : g < w.heap.size := hg
      have c0 : wr.cell? ⟨g, off + k * 2, none⟩ = some (.int .u64 (rnum G.regs k : Nat)) := by
        rw [← q0]; exact H.out.2.1.toBelow.cell (p := ⟨g, off + k * 2, none⟩) hgl
      have c1 : wr.cell? ⟨g, off + k * 2 + 1, none⟩ = some (.slice Av lv cv) := by
        rw [Nat.add_assoc, ← q1]; exact H.out.2.1.toBelow.cell (p := ⟨g, off + (k * 2 + 1), none⟩) hgl
      have hcs := counts_succ G.regs k
      have hcl := counts_len G.regs k
      obtain ⟨m, hm⟩ : ∃ m, m = rnum G.regs k := ⟨_, rfl⟩
      obtain ⟨cs, hcc⟩ : ∃ cs, cs = (List.range k).filter fun i => decide (0 < rnum G.regs i) := ⟨_, rfl⟩
      rw [← hm] at c0 hcs
      rw [← hcc] at hcs hcl
      have HO : Hid (wr.ownsRow (w.heap.size + 1) tInt1 1 v3 cs.length (ints cs)) := by rw [hcc]; exact H.out.1
      have HCS := Lib.hid hcs
      have hki : (k : Int) < (n : Int) := by omega
      have hsz : w.heap.size + 1 ≤ wr.heap.size := H.out.2.2.lt
      clear hm hcc hcs q0 q1
      by_cases h0 : 0 < m
      · have h0i : (0 : Int) < (m : Int) := by omega
        have HC2 : Hid (((List.range (k + 1)).filter fun i => decide (0 < rnum G.regs i)) = cs ++ [k]) := by show _ = _; rw [HCS.out, if_pos h0]
        clear h0
        go_wp2_with (first
          | (at_builtin; go_loud (refine wpList_app _ rfl (.tmp 19) (.tmp 21) tInts1 rfl tInt1 Try.underlying113 ti_int rfl (by omega) (w.heap.size + 1) _ cs.length (ints cs) rfl ((HO.out.alloc _).alloc _) tInt1 _ 1 1 [.int .i64 (k : Int)] rfl (rd_one2 _ _ _ _) (by simp [Value.oneCell']) (by simp only [maxLen]; omega) (by omega) (by simp; omega) ?_); intro v2 w2 ho2 hg2 hb2; have HO2 := Lib.hid ho2; have HG2 := Lib.hid hg2; clear ho2 hg2 hb2))
        go_roundg (n - (k + 1))
        case measure => omega
        case rel =>
          refine ⟨k + 1, _, rfl, rfl, by omega, by go_num, ?_, ?_, ?_⟩
          · rw [HC2.out, ints_append, List.length_append]; exact HO2.out
          · exact ((H.out.2.1.alloc _).alloc _).grown HG2.out (fun j hj => .inr (by have := own_new HO.out j hj; omega))
          · refine Blk.chg ((H.out.2.2.alloc _).alloc _) (Chg.grown (Chg.refl (fun i => Value.ownBlock _ = some i) _) HG2.out (fun j hj => .inl hj)) (fun hj => by have := own_new HO.out _ hj; omega)
      · obtain rfl : m = 0 := by omega
        have HC2 : Hid (((List.range (k + 1)).filter fun i => decide (0 < rnum G.regs i)) = cs) := by show _ = _; rw [HCS.out, if_neg h0, List.append_nil]
        clear h0
        go_wp2
        go_roundg (n - (k + 1))
        case measure => omega
        case rel =>
          refine ⟨k + 1, _, rfl, rfl, by omega, by go_num, ?_, ?_, ?_⟩
          · rw [HC2.out]; exact HO.out.alloc _
          · exact H.out.2.1.alloc _
          · exact H.out.2.2.alloc _
    · obtain rfl : k = n := by omega
      have HO : Hid (wr.ownsRow (w.heap.size + 1) tInt1 1 v3 (counts G.regs).length (ints (counts G.regs))) := by rw [HCN.out]; exact H.out.1
      have HS := Lib.hid (stable_calls (HL.out.chgNo H.out.2.1) w.heap.size H.out.2.2 (w.heap.size + 1) v3 (counts G.regs) HO.out (fun j hj ho => by have h1 := own_new HO.out j hj; have h2 := HL.out.lt j ho; omega) (fun x hx => by rw [HCN.out] at hx; rw [HNN.out]; exact counts_mem hx) (by rw [HCN.out]; have := counts_len G.regs k; omega))
      have hlen : (sortR (rnum G.regs) (counts G.regs)).length = (counts G.regs).length := by unfold sortR; rw [List.length_reverse]; exact insL_length _ _
      have HLEN := Lib.hid hlen
      clear hlt hlen
      go_wp2_with fail
      refine HS.out.mono ?_
      rintro e w2 ⟨rfl, ho2, hc2⟩
      have HH := Lib.hid (And.intro ho2 hc2)
      clear ho2 hc2
      go_wp2
      go_ret
      refine ⟨_, rfl, ?_, ?_⟩
      · rw [HB.out, HLEN.out]
        exact own_base HH.out.1 (by omega)
      · refine H.out.2.1.then HH.out.2 (fun i hi hT => ?_)
        have := own_new HO.out i hT
        omega
end Go.Proofs.Ytcmobcbecbajiaa
